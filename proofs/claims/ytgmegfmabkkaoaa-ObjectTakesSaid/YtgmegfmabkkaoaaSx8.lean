/- Small rules for symbolic steps, the eighth part: regions that draw their order. Program-independent. -/
import Derived.Test.YtgmegfmabkkaoaaSx7
import Derived.OrdersHeld
namespace Go.Sx
open Go Chunk
set_option linter.unusedSimpArgs false

/-- Operations that leave memory as it is. -/
def quietOp : Op → Bool
  | .move _ | .assign _ | .pick .. | .nilCheck _ | .binOp .. | .unOp .. | .convert .. | .makeFunc .. | .slice .. | .fieldAddr .. | .field .. | .indexAddr .. | .index .. | .extract .. | .load .. | .build .. => true
  | .call { callee := .builtin .len, .. } => true
  | _ => false
def quietI (ops : Array Oper) (i : Nat) : Bool := ((ops[i]?).map fun o => quietOp o.op).getD false
/-- Must S be shown behind an operation: may one of the loads come later than it? -/
def keepS (ops : Array Oper) (ls : List Nat) (j : Nat) : Bool :=
  match ops[j]? with
  | some o => ls.any fun i => (i != j) && o.after.all fun e => !(Region.binds .any e) || (e.on != i)
  | none => false
def Owed (ops : Array Oper) (ls : List Nat) (S : World → Prop) (i : Nat) (w w' : World) : Prop := if quietI ops i = true then w' = w else (keepS ops ls i = true → S w')

/-- Whatever order is picked from here on; S holds behind each operation that may come ahead of a load. -/
def wpAnyS (P : Program) (ops : Array Oper) (Q : Exit → Act → World → Prop) (S : World → Prop) (ls : List Nat) : Nat → Array Bool → Act → World → Prop
  | 0, listed, a, w => Region.ready .any ops listed = [] ∧ Q .normal a w
  | fuel + 1, listed, a, w =>
    (Region.ready .any ops listed = [] → Q .normal a w) ∧
    ∀ i ∈ Region.ready .any ops listed, wpOp P ops Q i (fun a' w' => Owed ops ls S i w w' ∧ wpAnyS P ops Q S ls fuel (listed.setIfInBounds i true) a' w') a w

section
variable {P : Program} {ops : Array Oper} {Q : Exit → Act → World → Prop} {S : World → Prop} {ls : List Nat}

theorem wpAny_of_S : ∀ (fuel : Nat) (listed : Array Bool) (a : Act) (w : World), wpAnyS P ops Q S ls fuel listed a w → wpAny P .any ops Q fuel listed a w
  | 0, _, _, _, h => h
  | fuel + 1, _, _, _, h => ⟨h.1, fun i hi => wpOp_mono (fun a' w' h' => wpAny_of_S fuel _ a' w' h'.2) (h.2 i hi)⟩

/-- An operation that may come up now may be taken first: it yields its value in every world; or in every world that meets S, and is one of the loads. -/
theorem wpAnyS_first {i : Nat} {oi : Oper} {v : Value} (hi : ops[i]? = some oi) (hq : quietI ops i = true) (hsel : ∀ (j : Nat) (o : Oper) cs b, ops[j]? = some o → o.op ≠ .select cs b)
    (hQ : ∀ c a w, Q (.panic c) (a.put oi.dst v) w → Q (.panic c) a w) {S' : World → Prop} (hS' : (∀ w, S' w) ∨ (S' = S ∧ i ∈ ls)) :
    ∀ (fuel : Nat) (listed : Array Bool) (a : Act) (w : World),
      (∀ j oj, ops[j]? = some oj → j ≠ i → listed.getD j true = false → (∀ e ∈ oj.after, Region.binds .any e = true → e.on ≠ i) → oi.apart ops oj = true) →
      i ∈ Region.ready .any ops listed → YieldsIf P ops S' oi v a → S' w →
      wpAnyS P ops Q S ls fuel (listed.setIfInBounds i true) (a.put oi.dst v) w → wpAnyS P ops Q S ls (fuel + 1) listed a w := by
  have hown : ∀ w, Owed ops ls S i w w := fun w => by unfold Owed; rw [if_pos hq]
  intro fuel
  induction fuel with
  | zero =>
    intro listed a w _ hr hy hS H
    refine ⟨fun h => (by rw [h] at hr; cases hr), fun j hj => ?_⟩
    by_cases hji : j = i
    · subst hji; exact hy.wpOp hi hS ⟨hown w, H⟩
    · have := ready_mono hj hji
      rw [H.1] at this
      cases this
  | succ fuel ih =>
    intro listed a w hfree hr hy hS H
    refine ⟨fun h => (by rw [h] at hr; cases hr), fun j hj => ?_⟩
    by_cases hji : j = i
    · subst hji; exact hy.wpOp hi hS ⟨hown w, H⟩
    · have h1 := H.2 j (ready_mono hj hji)
      obtain ⟨hjun, oj, hoj, hall⟩ := mem_ready.1 hj
      have hnot : ∀ e ∈ oj.after, Region.binds .any e = true → e.on ≠ i := fun e he hb heq => by
        have h1 := hall e he hb
        have h0 := (mem_ready.1 hr).1
        rw [heq] at h1
        rcases Nat.lt_or_ge i listed.size with h' | h'
        · simp [h'] at h0 h1; rw [h0] at h1; cases h1
        · simp [Array.getElem?_eq_none h'] at h1
      have h2 := wpOp_putIf hoj (hfree j oj hoj hji hjun hnot) (fun cs b => hsel i oi cs b hi) (fun cs b => hsel j oj cs b hoj) hQ hy h1
      have hfree' : ∀ k ok, ops[k]? = some ok → k ≠ i → (listed.setIfInBounds j true).getD k true = false →
          (∀ e ∈ ok.after, Region.binds .any e = true → e.on ≠ i) → oi.apart ops ok = true := fun k ok hk hki hun hno => by
        refine hfree k ok hk hki ?_ hno
        by_cases hjk : j = k
        · subst hjk; exact hjun
        · rw [getD_set_ne true hjk] at hun; exact hun
      refine wpOp_mono (fun a' w' h3 => ?_) h2
      obtain ⟨hyi, howed, h4⟩ := h3
      have hS2 : S' w' := by
        rcases hS' with hall' | ⟨rfl, hmem⟩
        · exact hall' w'
        · have hk : keepS ops ls j = true := by
            unfold keepS
            rw [hoj]
            rw [List.any_eq_true]
            refine ⟨i, hmem, ?_⟩
            simp only [Bool.and_eq_true, bne_iff_ne, ne_eq, Array.all_eq_true_iff_forall_mem, Bool.or_eq_true, Bool.not_eq_true']
            refine ⟨fun e => hji e.symm, fun e he => ?_⟩
            cases hb : Region.binds .any e with
            | false => exact .inl rfl
            | true => exact .inr (hnot e he hb)
          unfold Owed at howed
          by_cases hqj : quietI ops j = true
          · rw [if_pos hqj] at howed; rw [howed]; exact hS
          · rw [if_neg hqj] at howed; exact howed hk
      refine ⟨howed, ih (listed.setIfInBounds j true) a' w' hfree' (ready_mono hr (Ne.symm hji)) hyi hS2 ?_⟩
      rw [Array.setIfInBounds_comm _ _ hji]
      exact h4

/-- May number i be taken first? -/
def chk (ops : Array Oper) (listed : Array Bool) (i : Nat) : Bool := Region.noSelect ops && (Region.free .any ops listed i && ((Region.ready .any ops listed).contains i && quietI ops i))

/-- The i-th operation of a list. -/
def nthO : List Oper → Nat → Option Oper
  | [], _ => none
  | o :: _, 0 => some o
  | _ :: l, i + 1 => nthO l i
theorem nthO_eq : ∀ (l : List Oper) (i : Nat), nthO l i = l.toArray[i]?
  | [], i => by simp [nthO]
  | v :: l, 0 => by simp [nthO]
  | v :: l, i + 1 => by simp [nthO, nthO_eq l i]
structure XA (P : Program) (l : List Oper) (n : Cx) (Q : Exit → Act → World → Prop) (S : World → Prop) (ls : List Nat) (E : Env) (fuel : Nat) (listed : Array Bool) (w : World) : Prop where
  run : QOk Q → ∀ a, EnvOk a E n → wpAnyS P l.toArray Q S ls fuel listed a w

variable {l : List Oper} {T : Tab P} {n : Cx} {E : Env} {w w0 : World} {M : Nat → Prop} {H H' : List Chunk} {d : Nat} {ty : TypeId} {pos : String} {after : Array Edge} {fuel : Nat} {listed : Array Bool} {i : Nat}

theorem put_defers (a : Act) (d : Option Tmp) (v : Value) : (a.put d v).defers = a.defers := by cases d <;> rfl

theorem xa_take {oi : Oper} {v : Value} {S' : World → Prop} (hi : nthO l i = some oi) (hc : chk l.toArray listed i = true) (hd : oi.dst = some d) (hn : Nat.blt d n.m = true)
    (hS' : (∀ w, S' w) ∨ (S' = S ∧ i ∈ ls)) (hS : S' w) (hy : ∀ a, EnvOk a E n → YieldsIf P l.toArray S' oi v a) (h : XA P l n Q S ls ((d, v) :: E) fuel (listed.setIfInBounds i true) w) : XA P l n Q S ls E (fuel + 1) listed w := by
  refine ⟨fun q a ha => ?_⟩
  simp only [chk, Bool.and_eq_true, List.contains_iff_mem] at hc
  obtain ⟨c1, c2, c3, c4⟩ := hc
  refine wpAnyS_first (by rw [← nthO_eq]; exact hi) c4 (Region.noSelect_spec c1) (fun c a w h => q.panic c _ _ _ (put_defers _ _ _).symm h) hS' fuel listed a w (Region.free_spec (by rw [← nthO_eq]; exact hi) c2) c3 (hy a ha) hS ?_
  rw [hd]
  exact h.run q _ (ha.put hn)

/-- Is a guard known to hold? -/
def guardYes (l : List Oper) (E : Env) : Option (Nat × Bool) → Bool
  | none => true
  | some (j, want) => match nthO l j with
    | some oj => (match oj.dst with
      | some t => (match E.get t with
        | some (.bool b) => b == want
        | _ => false)
      | none => false)
    | none => false
def guardNo (l : List Oper) (E : Env) : Option (Nat × Bool) → Bool
  | none => false
  | some (j, want) => match nthO l j with
    | some oj => (match oj.dst with
      | some t => (match E.get t with
        | some v => gno v want
        | _ => false)
      | none => false)
    | none => false
theorem wanted_yes {o : Oper} (h : guardYes l E o.guard = true) {a : Act} (ha : EnvOk a E n) : Region.wanted o (yielded l.toArray a.tmps) = true := by
  unfold guardYes at h
  unfold Region.wanted
  cases hg : o.guard with
  | none => rfl
  | some p =>
    obtain ⟨j, want⟩ := p
    rw [hg] at h
    dsimp only at h ⊢
    split at h
    · rename_i oj hj
      split at h
      · rename_i t ht
        split at h
        · rename_i b hb
          have e : l.toArray[j]? = some oj := by rw [← nthO_eq]; exact hj
          simp only [yielded, e, Option.bind_some, ht, ha.get t _ hb]
          cases b <;> cases want <;> simp_all
        · cases h
      · cases h
    · cases h
theorem wanted_no {o : Oper} (h : guardNo l E o.guard = true) {a : Act} (ha : EnvOk a E n) : Region.wanted o (yielded l.toArray a.tmps) = false := by
  unfold guardNo at h
  unfold Region.wanted
  cases hg : o.guard with
  | none => rw [hg] at h; cases h
  | some p =>
    obtain ⟨j, want⟩ := p
    rw [hg] at h
    dsimp only at h ⊢
    split at h
    · rename_i oj hj
      split at h
      · rename_i t ht
        split at h
        · rename_i v hb
          have e : l.toArray[j]? = some oj := by rw [← nthO_eq]; exact hj
          simp only [yielded, e, Option.bind_some, ht, ha.get t _ hb]
          unfold gno at h
          split at h
          · rename_i got
            cases got <;> cases want <;> simp_all
          · simp
          · cases h
        · cases h
      · cases h
    · cases h

/-- A pure operation, taken first. -/
theorem xa_pure (T : Tab P) (i : Nat) {oi : Oper} {v : Value} (hi : nthO l i = some oi) (hg : guardYes l E oi.guard = true) (hv : evalP T E oi.op = some v) (hd : oi.dst = some d) (hn : Nat.blt d n.m = true) (hc : chk l.toArray listed i = true)
    (h : XA P l n Q S ls ((d, v) :: E) fuel (listed.setIfInBounds i true) w) : XA P l n Q S ls E (fuel + 1) listed w :=
  xa_take hi hc hd hn (S' := fun _ => True) (.inl fun _ => trivial) trivial (fun _ ha => .inl ⟨wanted_yes hg ha, fun _ _ => evalP_run (T := T) hv ha⟩) h
/-- One that gives its value in every world. -/
theorem xa_g (i : Nat) {op : Op} {v : Value} {g : Option (Nat × Bool)} (hi : nthO l i = some ⟨some d, op, ty, pos, after, g⟩) (hg : guardYes l E g = true) (hv : Gives P n E op ty v) (hn : Nat.blt d n.m = true) (hc : chk l.toArray listed i = true)
    (h : XA P l n Q S ls ((d, v) :: E) fuel (listed.setIfInBounds i true) w) : XA P l n Q S ls E (fuel + 1) listed w :=
  xa_take hi hc rfl hn (S' := fun _ => True) (.inl fun _ => trivial) trivial (fun a ha => .inl ⟨wanted_yes hg ha, fun w _ => hv.run _ _ _ _ a ha w⟩) h
/-- One whose run is known in every world. -/
theorem xa_run (i : Nat) {oi : Oper} {v : Value} (hi : nthO l i = some oi) (hg : guardYes l E oi.guard = true) (hd : oi.dst = some d) (hn : Nat.blt d n.m = true) (hc : chk l.toArray listed i = true)
    (hv : ∀ a, EnvOk a E n → ∀ w, (execOp a.eval oi).run P w = .ok (.value v) w)
    (h : XA P l n Q S ls ((d, v) :: E) fuel (listed.setIfInBounds i true) w) : XA P l n Q S ls E (fuel + 1) listed w :=
  xa_take hi hc hd hn (S' := fun _ => True) (.inl fun _ => trivial) trivial (fun a ha => .inl ⟨wanted_yes hg ha, fun w _ => hv a ha w⟩) h
/-- One that is passed over. -/
theorem xa_skip (i : Nat) {oi : Oper} (hi : nthO l i = some oi) (hg : guardNo l E oi.guard = true) (hd : oi.dst = some d) (hn : Nat.blt d n.m = true) (hc : chk l.toArray listed i = true)
    (h : XA P l n Q S ls ((d, undef) :: E) fuel (listed.setIfInBounds i true) w) : XA P l n Q S ls E (fuel + 1) listed w :=
  xa_take hi hc hd hn (S' := fun _ => True) (.inl fun _ => trivial) trivial (fun _ ha => .inr ⟨wanted_no hg ha, rfl⟩) h

/-- The chunks that the loads look at. -/
def SC (Hs : List Chunk) (w : World) : Prop := ∀ c ∈ Hs, c.ok w
theorem SC.nth {Hs : List Chunk} {w : World} (h : SC Hs w) {i : Nat} {c : Chunk} (hp : nthC Hs i = some c) : c.ok w := h c (nthC_mem hp)
/-- The same list of chunks in another world. -/
theorem SC.again {Hs : List Chunk} {w w' : World} (_ : SC Hs w) (h : SC Hs w') : SC Hs w' := h
theorem sc_nil : SC [] w := fun _ hc => by simp at hc
theorem sc_cons {c : Chunk} {Hs : List Chunk} (hw : St w0 M w H) {i : Nat} (hp : nthC H i = some c) (h : SC Hs w) : SC (c :: Hs) w := fun x hx => by
  rcases List.mem_cons.1 hx with rfl | hx
  · exact hw.nth i hp
  · exact h x hx

theorem run_load_cell' {a : Act} (T : Tab P) {x : Operand} {t : TypeId} {ti : TyI} {ad : Addr} {v : Value} {o : Oper} (ho : o.op = .load t x) (hx : a.eval x = .pointer (some ad)) (ht : T.get t = some ti) (hi : isAggD ti.desc = false)
    (hv : w.cell? ad = some v) : (execOp a.eval o).run P w = .ok (.value v) w := by
  simp [execOp, ho, hx, Instr.loadAt, Instr.sureAddr, loadVar, isAgg_of ht, hi, hv]
theorem run_load_cells' {a : Act} (T : Tab P) {x : Operand} {t : TypeId} {ti : TyI} {ad : Addr} {vs : List Value} {o : Oper} (ho : o.op = .load t x) (hx : a.eval x = .pointer (some ad)) (ht : T.get t = some ti) (hi : isAggD ti.desc = true)
    (hl : vs.length = ti.size) (hv : ∀ j v, vs[j]? = some v → w.cell? (ad.add j) = some v) : (execOp a.eval o).run P w = .ok (.value (.agg vs.toArray)) w := by
  obtain ⟨tinf, z, g1, g2, _, _, _⟩ := T.inf ht
  have hrun := run_loadCells_list (P := P) w ad vs hv
  rw [hl, ← g2] at hrun
  simp [execOp, ho, hx, Instr.loadAt, Instr.sureAddr, loadVar, isAgg_of ht, hi, sizeOf, typeInfo, program, Sem.run, g1, hrun]

variable {Hs : List Chunk}
/-- A load of one cell, taken first: what is known of the cell holds wherever S does. -/
theorem xa_load_if (T : Tab P) (i : Nat) {oi : Oper} {x : Operand} {t : TypeId} {ti : TyI} {ad : Addr} {v : Value} (hS : SC Hs w) (hi : nthO l i = some oi) (hop : oi.op = .load t x) (hg : guardYes l E oi.guard = true) (hx : E.ev x = some (.pointer (some ad)))
    (ht : T.get t = some ti) (hti : isAggD ti.desc = false) (hd : oi.dst = some d) (hn : Nat.blt d n.m = true) (hc : chk l.toArray listed i = true) (hl : ls.contains i = true) (hv : ∀ w, SC Hs w → w.cell? ad = some v)
    (h : XA P l n Q (SC Hs) ls ((d, v) :: E) fuel (listed.setIfInBounds i true) w) : XA P l n Q (SC Hs) ls E (fuel + 1) listed w :=
  xa_take hi hc hd hn (S' := SC Hs) (.inr ⟨rfl, by simpa using hl⟩) hS (fun _ ha => .inl ⟨wanted_yes hg ha, fun w' hw' => run_load_cell' T hop (ha.eval hx) ht hti (hv w' hw')⟩) h
theorem xa_loads_if (T : Tab P) (i : Nat) {oi : Oper} {x : Operand} {t : TypeId} {ti : TyI} {ad : Addr} {vs : List Value} (hS : SC Hs w) (hi : nthO l i = some oi) (hop : oi.op = .load t x) (hg : guardYes l E oi.guard = true) (hx : E.ev x = some (.pointer (some ad)))
    (ht : T.get t = some ti) (hti : isAggD ti.desc = true) (hd : oi.dst = some d) (hn : Nat.blt d n.m = true) (hc : chk l.toArray listed i = true) (hl : ls.contains i = true) (hlen : vs.length = ti.size) (hv : ∀ w, SC Hs w → ∀ j v, vs[j]? = some v → w.cell? (ad.add j) = some v)
    (h : XA P l n Q (SC Hs) ls ((d, .agg vs.toArray) :: E) fuel (listed.setIfInBounds i true) w) : XA P l n Q (SC Hs) ls E (fuel + 1) listed w :=
  xa_take hi hc hd hn (S' := SC Hs) (.inr ⟨rfl, by simpa using hl⟩) hS (fun _ ha => .inl ⟨wanted_yes hg ha, fun w' hw' => run_load_cells' T hop (ha.eval hx) ht hti hlen (hv w' hw')⟩) h
/-- Out of a block. -/
theorem xa_load (T : Tab P) (i : Nat) {oi : Oper} {x : Operand} {t tb : TypeId} {ti : TyI} {b o k : Nat} {cs : List Value} {v : Value} (hS : SC Hs w) (hi : nthO l i = some oi) (hop : oi.op = .load t x) (hg : guardYes l E oi.guard = true) (hx : E.ev x = some (.pointer (some ⟨b, o, none⟩)))
    (hp : nthC Hs k = some (blk b cs tb)) (hv : Sx.nth cs o = some v) (ht : T.get t = some ti) (hti : isAggD ti.desc = false) (hd : oi.dst = some d) (hn : Nat.blt d n.m = true) (hc : chk l.toArray listed i = true) (hl : ls.contains i = true)
    (h : XA P l n Q (SC Hs) ls ((d, v) :: E) fuel (listed.setIfInBounds i true) w) : XA P l n Q (SC Hs) ls E (fuel + 1) listed w :=
  xa_load_if T i hS hi hop hg hx ht hti hd hn hc hl (fun w' hw' => by rw [blk_cell (hw'.nth hp), ← nth_eq, hv]) h
theorem xa_loads (T : Tab P) (i : Nat) {oi : Oper} {x : Operand} {t tb : TypeId} {ti : TyI} {b o k : Nat} {cs vs : List Value} (hS : SC Hs w) (hi : nthO l i = some oi) (hop : oi.op = .load t x) (hg : guardYes l E oi.guard = true) (hx : E.ev x = some (.pointer (some ⟨b, o, none⟩)))
    (hp : nthC Hs k = some (blk b cs tb)) (ht : T.get t = some ti) (hti : isAggD ti.desc = true) (hv : nths cs o ti.size = some vs) (hd : oi.dst = some d) (hn : Nat.blt d n.m = true) (hc : chk l.toArray listed i = true) (hl : ls.contains i = true)
    (h : XA P l n Q (SC Hs) ls ((d, .agg vs.toArray) :: E) fuel (listed.setIfInBounds i true) w) : XA P l n Q (SC Hs) ls E (fuel + 1) listed w :=
  xa_loads_if T i hS hi hop hg hx ht hti hd hn hc hl (nths_spec hv).1 (fun w' hw' j v hj => by
    rw [addr_add, blk_cell (hw'.nth hp)]
    have hlt : j < vs.length := (List.getElem?_eq_some_iff.1 hj).1
    rw [(nths_spec hv).2 j (by rw [← (nths_spec hv).1]; exact hlt), hj]) h
theorem xa_loadr (T : Tab P) (i : Nat) {oi : Oper} {x : Operand} {t : TypeId} {ti : TyI} {g o k cap e sz m : Nat} {xs : List Value} {v : Value} (hS : SC Hs w) (hi : nthO l i = some oi) (hop : oi.op = .load t x) (hg : guardYes l E oi.guard = true) (hx : E.ev x = some (.pointer (some ⟨g, o, none⟩)))
    (hp : nthC Hs k = some (row (some ⟨g, 0, none⟩) cap e sz m xs)) (hv : xs[o]? = some v) (ht : T.get t = some ti) (hti : isAggD ti.desc = false) (hd : oi.dst = some d) (hn : Nat.blt d n.m = true) (hc : chk l.toArray listed i = true) (hl : ls.contains i = true)
    (h : XA P l n Q (SC Hs) ls ((d, v) :: E) fuel (listed.setIfInBounds i true) w) : XA P l n Q (SC Hs) ls E (fuel + 1) listed w :=
  xa_load_if T i hS hi hop hg hx ht hti hd hn hc hl (fun _ hw' => row_cell (hw'.nth hp) o v hv) h
theorem xa_loadrs (T : Tab P) (i : Nat) {oi : Oper} {x : Operand} {t : TypeId} {ti : TyI} {g o k cap e sz m : Nat} {xs vs : List Value} (hS : SC Hs w) (hi : nthO l i = some oi) (hop : oi.op = .load t x) (hg : guardYes l E oi.guard = true) (hx : E.ev x = some (.pointer (some ⟨g, o, none⟩)))
    (hp : nthC Hs k = some (row (some ⟨g, 0, none⟩) cap e sz m xs)) (ht : T.get t = some ti) (hti : isAggD ti.desc = true) (hlen : vs.length = ti.size) (hv : ∀ j v, vs[j]? = some v → xs[o + j]? = some v) (hd : oi.dst = some d) (hn : Nat.blt d n.m = true) (hc : chk l.toArray listed i = true) (hl : ls.contains i = true)
    (h : XA P l n Q (SC Hs) ls ((d, .agg vs.toArray) :: E) fuel (listed.setIfInBounds i true) w) : XA P l n Q (SC Hs) ls E (fuel + 1) listed w :=
  xa_loads_if T i hS hi hop hg hx ht hti hd hn hc hl hlen (fun w' hw' j v hj => by rw [addr_add]; exact row_cell (hw'.nth hp) (o + j) v (hv j v hj)) h
theorem xa_loadg (T : Tab P) (i : Nat) {oi : Oper} {x : Operand} {t : TypeId} {ti : TyI} {a ad : Addr} {j k : Nat} {xs : List Value} {v : Value} (hS : SC Hs w) (hi : nthO l i = some oi) (hop : oi.op = .load t x) (hg : guardYes l E oi.guard = true) (hx : E.ev x = some (.pointer (some ad)))
    (hp : nthC Hs k = some (rng (some a) xs)) (ho : ad = a.add j) (hv : xs[j]? = some v) (ht : T.get t = some ti) (hti : isAggD ti.desc = false) (hd : oi.dst = some d) (hn : Nat.blt d n.m = true) (hc : chk l.toArray listed i = true) (hl : ls.contains i = true)
    (h : XA P l n Q (SC Hs) ls ((d, v) :: E) fuel (listed.setIfInBounds i true) w) : XA P l n Q (SC Hs) ls E (fuel + 1) listed w :=
  xa_load_if T i hS hi hop hg hx ht hti hd hn hc hl (fun w' hw' => by rw [ho]; exact rng_cell (hw'.nth hp) j v hv) h
theorem xa_loadgs (T : Tab P) (i : Nat) {oi : Oper} {x : Operand} {t : TypeId} {ti : TyI} {a ad : Addr} {j k : Nat} {xs vs : List Value} (hS : SC Hs w) (hi : nthO l i = some oi) (hop : oi.op = .load t x) (hg : guardYes l E oi.guard = true) (hx : E.ev x = some (.pointer (some ad)))
    (hp : nthC Hs k = some (rng (some a) xs)) (ho : ad = a.add j) (ht : T.get t = some ti) (hti : isAggD ti.desc = true) (hv : (xs.drop j).take ti.size = vs) (hlen : j + ti.size ≤ xs.length) (hd : oi.dst = some d) (hn : Nat.blt d n.m = true) (hc : chk l.toArray listed i = true) (hl : ls.contains i = true)
    (h : XA P l n Q (SC Hs) ls ((d, .agg vs.toArray) :: E) fuel (listed.setIfInBounds i true) w) : XA P l n Q (SC Hs) ls E (fuel + 1) listed w :=
  xa_loads_if T i hS hi hop hg hx ht hti hd hn hc hl (by rw [← hv, List.length_take, List.length_drop]; omega) (fun w' hw' m v hm => by
    rw [ho, add_add]
    refine rng_cell (hw'.nth hp) (j + m) v ?_
    rw [← hv, List.getElem?_take] at hm
    split at hm
    · rwa [List.getElem?_drop] at hm
    · cases hm) h

theorem upon_then {o : Oper} {a : Act} {K : Act → World → Prop} (h : o.wp P a w K (Exit.then K Q)) : o.wp P a w K Q := by
  unfold Oper.wp at h ⊢
  generalize (execOp a.eval o).run P w = r at h ⊢
  cases r with
  | ok x w' =>
    cases x <;> simp only [Oper.upon] at h ⊢ <;> exact h
  | halt x w' => cases x <;> simp only [Oper.upon] at h ⊢ <;> exact h

/-- The only one that may come up: by the rules for operations in a row. -/
theorem xa_eff (i : Nat) {oi : Oper} (hi : nthO l i = some oi) (hr : (Region.ready .any l.toArray listed == [i]) = true)
    (h : ∀ K : Act → World → Prop, (∀ E' w', Owed l.toArray ls S i w w' → XA P l n Q S ls E' fuel (listed.setIfInBounds i true) w' → ∀ a, EnvOk a E' n → K a w') → ∀ ops : Array Oper, ops.toList = l → XL P ops n (Exit.then K Q) E [oi] w) : XA P l n Q S ls E (fuel + 1) listed w := by
  refine ⟨fun q a ha => ?_⟩
  have hr' : Region.ready .any l.toArray listed = [i] := by simpa using hr
  refine ⟨fun h0 => (by rw [hr'] at h0; cases h0), fun j hj => ?_⟩
  rw [hr'] at hj
  simp only [List.mem_singleton] at hj
  subst hj
  have hx := (h (fun a' w' => Owed l.toArray ls S j w w' ∧ wpAnyS P l.toArray Q S ls fuel (listed.setIfInBounds j true) a' w') (fun E' w' ho hxa a' ha' => ⟨ho, hxa.run q a' ha'⟩) l.toArray (by simp)).run q.then a ha
  unfold wpList at hx
  unfold wpOp
  rw [← nthO_eq, hi]
  simp only []
  split
  · rename_i hw
    rw [if_pos hw] at hx
    exact hx.imp (fun h => upon_then h) (fun h => h)
  · rename_i hw
    rw [if_neg hw] at hx
    exact hx

/-- Behind the only one. -/
theorem xq_any {K : Act → World → Prop} {w' : World} (hK : ∀ E' w', Owed l.toArray ls S i w w' → XA P l n Q S ls E' fuel (listed.setIfInBounds i true) w' → ∀ a, EnvOk a E' n → K a w') {Q' : Exit → Act → World → Prop}
    (ho : Owed l.toArray ls S i w w') (h : XA P l n Q S ls E fuel (listed.setIfInBounds i true) w') : XQ n (Exit.then K Q') .normal E w' := ⟨fun q a ha => hK E w' ho h a ha⟩
theorem owed_quiet (hq : quietI l.toArray i = true) : Owed l.toArray ls S i w w := by unfold Owed; rw [if_pos hq]
theorem owed_none {w' : World} (hq : quietI l.toArray i = false) (hk : keepS l.toArray ls i = false) : Owed l.toArray ls S i w w' := by
  unfold Owed; rw [if_neg (by rw [hq]; decide)]; intro h; rw [hk] at h; cases h
theorem owed_some {w' : World} (hq : quietI l.toArray i = false) (h : S w') : Owed l.toArray ls S i w w' := by
  unfold Owed; rw [if_neg (by rw [hq]; decide)]; exact fun _ => h

/-- All have come up. -/
theorem xa_done (hr : (Region.ready .any l.toArray listed == []) = true) (h : XQ n Q .normal E w) : XA P l n Q S ls E fuel listed w := ⟨fun q a ha => by
  have hr' : Region.ready .any l.toArray listed = [] := by simpa using hr
  cases fuel with
  | zero => exact ⟨hr', h.run q a ha⟩
  | succ k => exact ⟨fun _ => h.run q a ha, by rw [hr']; simp⟩⟩

/-- Into a region that draws its order: the loads 'ls' look at the chunks 'Hs' alone. -/
theorem xc_draw (hm : P.follows .mixedOrders = true) (ls : List Nat) (Hs : List Chunk) {id : Nat} (hd : noDef l = true) (hw : St w0 M w H) (hs : SC Hs w)
    (h : ∀ w, St w0 M w H → SC Hs w → XA P l n Q (SC Hs) ls E l.toArray.size (Array.replicate l.toArray.size false) w) : XC P n Q E (.region id l.toArray true) w :=
  ⟨fun q a ha => wpIn_region_any hm (any_fw q (noDef_mem hd) _ _ _ _ (wpAny_of_S _ _ _ _ ((h _ (hw.same (Turns.drew _ w)) (fun c hc => c.loc w _ (fun _ _ => rfl) (hs c hc))).run q a ha)))⟩
def nthsC (H : List Chunk) : List Nat → Option (List Chunk)
  | [] => some []
  | i :: is => match nthC H i, nthsC H is with
    | some c, some cs => some (c :: cs)
    | _, _ => none
theorem sc_nths (hw : St w0 M w H) : ∀ {is : List Nat} {Hs : List Chunk}, nthsC H is = some Hs → SC Hs w
  | [], Hs, h => by simp only [nthsC, Option.some.injEq] at h; subst h; exact sc_nil
  | i :: is, Hs, h => by
    simp only [nthsC] at h
    split at h
    · rename_i c cs h1 h2
      cases h
      exact sc_cons hw h1 (sc_nths hw h2)
    · cases h
/-- Likewise; the chunks by their places. -/
theorem xc_drawn (hm : P.follows .mixedOrders = true) (ls : List Nat) (is : List Nat) {id : Nat} {Hs : List Chunk} (hd : noDef l = true) (hw : St w0 M w H) (hs : nthsC H is = some Hs)
    (h : ∀ w, St w0 M w H → SC Hs w → XA P l n Q (SC Hs) ls E l.toArray.size (Array.replicate l.toArray.size false) w) : XC P n Q E (.region id l.toArray true) w :=
  xc_draw hm ls Hs hd hw (sc_nths hw hs) h
end
end Go.Sx

/- Small rules for symbolic steps, the tenth part: the rules once more, memory folded into the goal (no world, no continuation by name). Program-independent. -/
import Derived.Test.YtgmegfmabkkaoaaSx9
namespace Go.Sx
open Go Chunk
set_option linter.unusedSimpArgs false
set_option linter.unusedVariables false

/-- Wherever memory is so. -/
def Wd (w0 : World) (M : Nat → Prop) (H : List Chunk) (G : World → Prop) : Prop := ∀ w, St w0 M w H → G w
/-- Likewise, and some chunks more are known to hold. -/
def WS (w0 : World) (M : Nat → Prop) (H Hk : List Chunk) (G : World → Prop) : Prop := ∀ w, St w0 M w H → SC Hk w → G w
/-- Operations in a row; l: the whole region. -/
def XR (P : Program) (l : List Oper) (n : Cx) (Q : Exit → Act → World → Prop) (E : Env) (L : List Oper) (w : World) : Prop := ∀ ops : Array Oper, ops.toList = l → XL P ops n Q E L w
/-- Operations in an order of our own: ord. -/
structure XO (P : Program) (l : List Oper) (n : Cx) (Q : Exit → Act → World → Prop) (S : World → Prop) (ls : List Nat) (E : Env) (ord : List Nat) (fuel : Nat) (listed : Array Bool) (w : World) : Prop where
  run : XA P l n Q S ls E fuel listed w
def seqK (P : Program) (ro : Option Nat) (y : Code) (Q : Exit → Act → World → Prop) (a : Act) (w : World) : Prop := QOk Q ∧ y.wpIn (FW ro) 0 P Q a w

section
variable {P : Program} {T : Tab P} {n : Cx} {Q : Exit → Act → World → Prop} {E : Env} {w0 : World} {M : Nat → Prop} {H H' : List Chunk} {l L : List Oper}
  {d : Nat} {ty : TypeId} {pos : String} {after : Array Edge} {G : World → Prop}

theorem St.sc {w : World} (hw : St w0 M w H) : SC H w := fun c hc => hw.sep.mem c hc
/-- A fact about memory. -/
theorem w_use {p : Prop} (hp : ∀ w, St w0 M w H → p) (h : p → Wd w0 M H G) : Wd w0 M H G := fun w hw => h (hp w hw) w hw
/-- Memory in other words. -/
theorem w_turn (ht : ∀ w, St w0 M w H → St w0 M w H') (h : Wd w0 M H' G) : Wd w0 M H G := fun w hw => h w (ht w hw)
theorem w_sub (is : List Nat) {R : List Chunk} (hp : picks is H = some (H', R)) (h : Wd w0 M H' G) : Wd w0 M H G := fun w hw => h w (hw.sub is hp)

/-! ### Code -/
theorem w_seq {x y : Code} (h : Wd w0 M H (XC P n (Exit.then (seqK P n.ro y Q) Q) E x)) : Wd w0 M H (XC P n Q E (.seq x y)) := fun w hw => ⟨fun q a ha => wpIn_mono (wpIn_seq_k fun K hK => wpIn_mono ((h w hw).run q.then a ha) (fun e a w hx => by cases e <;> first | exact hK _ _ hx.2 | exact hx)) (fun _ _ _ h => h)⟩
theorem w_then {y : Code} (h : Wd w0 M H (XC P n Q E y)) : Wd w0 M H (XQ n (Exit.then (seqK P n.ro y Q) Q) .normal E) := fun w hw => ⟨fun q a ha => ⟨⟨q.panic, q.out⟩, (h w hw).run ⟨q.panic, q.out⟩ a ha⟩⟩
theorem w_weak {F : Env} {c : Code} (hs : EnvSub E F) (h : Wd w0 M H (XC P n Q F c)) : Wd w0 M H (XC P n Q E c) := fun w hw => xc_weak hs (h w hw)
theorem w_skip (h : Wd w0 M H (XQ n Q .normal E)) : Wd w0 M H (XC P n Q E .skip) := fun w hw => xc_skip (h w hw)
theorem w_ret (h : Wd w0 M H (XQ n Q .ret E)) : Wd w0 M H (XC P n Q E .ret) := fun w hw => xc_ret (h w hw)
theorem w_exit {id : Nat} (h : Wd w0 M H (XQ n Q (.exit id) E)) : Wd w0 M H (XC P n Q E (.exit id)) := fun w hw => xc_exit (h w hw)
theorem w_label {k : Nat} (h : Wd w0 M H (XQ n Q .normal E)) : Wd w0 M H (XC P n Q E (.label k)) := fun w hw => xc_label (h w hw)
theorem w_block {id : Nat} {c : Code} (h : Wd w0 M H (XC P n (Exit.inBlock id Q) E c)) : Wd w0 M H (XC P n Q E (.block id c)) := fun w hw => xc_block (h w hw)
theorem w_true {c : Operand} {x y : Code} (hc : E.ev c = some (.bool true)) (h : Wd w0 M H (XC P n Q E x)) : Wd w0 M H (XC P n Q E (.cond c x y)) := fun w hw => xc_cond_true hc (h w hw)
theorem w_false {c : Operand} {x y : Code} (hc : E.ev c = some (.bool false)) (h : Wd w0 M H (XC P n Q E y)) : Wd w0 M H (XC P n Q E (.cond c x y)) := fun w hw => xc_cond_false hc (h w hw)
theorem w_yes {c : Operand} {x y : Code} {b : Bool} (hc : E.ev c = some (.bool b)) (hb : b = true) (h : Wd w0 M H (XC P n Q E x)) : Wd w0 M H (XC P n Q E (.cond c x y)) := w_true (by rw [hc, hb]) h
theorem w_no {c : Operand} {x y : Code} {b : Bool} (hc : E.ev c = some (.bool b)) (hb : b = false) (h : Wd w0 M H (XC P n Q E y)) : Wd w0 M H (XC P n Q E (.cond c x y)) := w_false (by rw [hc, hb]) h
theorem w_cond {c : Operand} {x y : Code} {b : Bool} (hc : E.ev c = some (.bool b)) (ht : b = true → Wd w0 M H (XC P n Q E x)) (hf : b = false → Wd w0 M H (XC P n Q E y)) : Wd w0 M H (XC P n Q E (.cond c x y)) :=
  fun w hw => xc_cond hc (fun h => ht h w hw) (fun h => hf h w hw)
theorem w_region {id : Nat} (hd : noDef l = true) (h : Wd w0 M H (XR P l n Q E l)) : Wd w0 M H (XC P n Q E (.region id l.toArray false)) := fun w hw => xc_region hd (h w hw)
theorem w_nil (h : Wd w0 M H (XQ n Q .normal E)) : Wd w0 M H (XR P l n Q E []) := fun w hw ops _ => xl_nil (h w hw)
theorem w_thenRet {K : Act → World → Prop} (h : Wd w0 M H (XQ n Q .ret E)) : Wd w0 M H (XQ n (Exit.then K Q) .ret E) := fun w hw => xq_then_ret (h w hw)
theorem w_thenExit {K : Act → World → Prop} {id : Nat} (h : Wd w0 M H (XQ n Q (.exit id) E)) : Wd w0 M H (XQ n (Exit.then K Q) (.exit id) E) := fun w hw => xq_then_exit (h w hw)
theorem w_thenGoto {K : Act → World → Prop} {id : Nat} (h : Wd w0 M H (XQ n Q (.goto id) E)) : Wd w0 M H (XQ n (Exit.then K Q) (.goto id) E) := fun w hw => xq_then_goto (h w hw)
theorem w_inNormal {id : Nat} (h : Wd w0 M H (XQ n Q .normal E)) : Wd w0 M H (XQ n (Exit.inBlock id Q) .normal E) := fun w hw => xq_in_normal (h w hw)
theorem w_inRet {id : Nat} (h : Wd w0 M H (XQ n Q .ret E)) : Wd w0 M H (XQ n (Exit.inBlock id Q) .ret E) := fun w hw => xq_in_ret (h w hw)
theorem w_inGoto {id k : Nat} (h : Wd w0 M H (XQ n Q (.goto k) E)) : Wd w0 M H (XQ n (Exit.inBlock id Q) (.goto k) E) := fun w hw => xq_in_goto (h w hw)
theorem w_inExit {id : Nat} (h : Wd w0 M H (XQ n Q .normal E)) : Wd w0 M H (XQ n (Exit.inBlock id Q) (.exit id) E) := fun w hw => xq_in_exit (h w hw)
theorem w_inOther {id id' : Nat} (hne : Nat.beq id' id = false) (h : Wd w0 M H (XQ n Q (.exit id') E)) : Wd w0 M H (XQ n (Exit.inBlock id Q) (.exit id') E) := fun w hw => xq_in_other hne (h w hw)

/-! ### Into a function, and out of it -/
theorem fn_intro {α : Type} {f : FuncId} {fn : Func} {c : Code} {args : List Value} {A B : List Chunk} {val : α → Value} {out : α → List Chunk} {Φ : α → Prop} {m : Nat} (hf : P.funcs[f]? = some fn) (hm : fn.ntmps = m) (hb : fn.body = some c) (hname : (fn.name == "runtime.NumGoroutine") = false) (hle : Nat.ble args.length m = true)
    (h : ∀ w0, Wd w0 (ownsW A) (A ++ B) (XC P ⟨m, [], none⟩ (bodyPost P fn (Ret w0 A val out Φ)) (Env.ofArgs 0 args) c)) : FnC P f args A B val out Φ :=
  ⟨⟨fn, c, hf, hb, hname⟩, fun w hw => x_enter hf hm hb hle (fun _ h => by obtain ⟨_, h, _⟩ := h; cases h) (h w w hw)⟩
section
variable {α : Type} {A R : List Chunk} {val : α → Value} {out : α → List Chunk} {Φ : α → Prop} {fn : Func} {e : Exit}
theorem w_end (x : α) {v : Value} (is : List Nat) (he : e = .ret ∨ e = .normal) (hr : ∀ w a, EnvOk a E n → (results fn a.tmps).run P w = .ok v w) (hv : v = val x) (hp : picks is H = some (out x, R)) (hx : Φ x) (hds : n.ds = [] := by exact rfl) : Wd w0 (ownsW A) H (XQ n (bodyPost P fn (Ret w0 A val out Φ)) e E) :=
  fun w hw => xq_ret hds he (hr w) ⟨x, by rw [hv], hw.sub is hp, hx⟩
theorem w_end0 (x : α) (is : List Nat) (he : e = .ret ∨ e = .normal) (hf : fn.results = #[]) (hv : .tuple #[] = val x) (hp : picks is H = some (out x, R)) (hx : Φ x) (hds : n.ds = [] := by exact rfl) : Wd w0 (ownsW A) H (XQ n (bodyPost P fn (Ret w0 A val out Φ)) e E) :=
  w_end x is he (fun w => results0 hf) hv hp hx hds
theorem w_end1 (x : α) {t : Tmp} {v : Value} (is : List Nat) (he : e = .ret ∨ e = .normal) (hf : fn.results = #[.tmp t]) (ht : E.get t = some v) (hv : v = val x) (hp : picks is H = some (out x, R)) (hx : Φ x) (hds : n.ds = [] := by exact rfl) : Wd w0 (ownsW A) H (XQ n (bodyPost P fn (Ret w0 A val out Φ)) e E) :=
  w_end x is he (fun w => results1 hf ht) hv hp hx hds
theorem w_end2 (x : α) {t u : Tmp} {v1 v2 : Value} (is : List Nat) (he : e = .ret ∨ e = .normal) (hf : fn.results = #[.tmp t, .tmp u]) (ht : E.get t = some v1) (hu : E.get u = some v2) (hv : .tuple #[v1, v2] = val x) (hp : picks is H = some (out x, R)) (hx : Φ x) (hds : n.ds = [] := by exact rfl) : Wd w0 (ownsW A) H (XQ n (bodyPost P fn (Ret w0 A val out Φ)) e E) :=
  w_end x is he (fun w => results2 hf ht hu) hv hp hx hds
theorem w_end3 (x : α) {t u s : Tmp} {v1 v2 v3 : Value} (is : List Nat) (he : e = .ret ∨ e = .normal) (hf : fn.results = #[.tmp t, .tmp u, .tmp s]) (ht : E.get t = some v1) (hu : E.get u = some v2) (hs : E.get s = some v3) (hv : .tuple #[v1, v2, v3] = val x) (hp : picks is H = some (out x, R)) (hx : Φ x) (hds : n.ds = [] := by exact rfl) : Wd w0 (ownsW A) H (XQ n (bodyPost P fn (Ret w0 A val out Φ)) e E) :=
  w_end x is he (fun w => results3 hf ht hu hs) hv hp hx hds
end

/-! ### Guards -/
theorem xl_yes {ops : Array Oper} {w : World} {dst : Option Tmp} {op : Op} {g : Option (Nat × Bool)} (ho : ops.toList = l) (hg : guardYes l E g = true) (h : XL P ops n Q E (⟨dst, op, ty, pos, after, none⟩ :: L) w) : XL P ops n Q E (⟨dst, op, ty, pos, after, g⟩ :: L) w := by
  refine ⟨fun q a ha => ?_⟩
  have hops : ops = l.toArray := by rw [← ho]
  have hw : Region.wanted ⟨dst, op, ty, pos, after, g⟩ (yielded ops a.tmps) = true := by rw [hops]; exact wanted_yes hg ha
  have h1 := h.run q a ha
  unfold wpList at h1 ⊢
  rw [if_pos hw]
  rw [if_pos (by simp [Region.wanted])] at h1
  exact h1
theorem w_gyes {dst : Option Tmp} {op : Op} {g : Nat × Bool} (hg : guardYes l E (some g) = true) (h : Wd w0 M H (XR P l n Q E (⟨dst, op, ty, pos, after, none⟩ :: L))) : Wd w0 M H (XR P l n Q E (⟨dst, op, ty, pos, after, some g⟩ :: L)) :=
  fun w hw ops ho => xl_yes ho hg (h w hw ops ho)
theorem w_gno {op : Op} {g : Nat × Bool} (hg : guardNo l E (some g) = true) (hn : Nat.blt d n.m = true) (h : Wd w0 M H (XR P l n Q ((d, undef) :: E) L)) : Wd w0 M H (XR P l n Q E (⟨some d, op, ty, pos, after, some g⟩ :: L)) :=
  fun w hw ops ho => ⟨fun q a ha => wpList_skip (by have := wanted_no (o := ⟨some d, op, ty, pos, after, some g⟩) hg ha; rw [← ho] at this; simpa using this) ((h w hw ops ho).run q _ (ha.put hn))⟩
theorem w_gno0 {op : Op} {g : Nat × Bool} (hg : guardNo l E (some g) = true) (h : Wd w0 M H (XR P l n Q E L)) : Wd w0 M H (XR P l n Q E (⟨none, op, ty, pos, after, some g⟩ :: L)) :=
  fun w hw ops ho => ⟨fun q a ha => wpList_skip (by have := wanted_no (o := ⟨none, op, ty, pos, after, some g⟩) hg ha; rw [← ho] at this; simpa using this) ((h w hw ops ho).run q _ ha.put_none)⟩
/-- The temporary of a guard. -/
def guardT (l : List Oper) (g : Nat × Bool) : Option Tmp := match nthO l g.1 with
  | some o => o.dst
  | none => none
/-- A value may be written as what it is. -/
theorem envOk_as {a : Act} {t : Tmp} {b c : Bool} (ha : EnvOk a E n) (hv : E.get t = some (.bool b)) (hb : b = c) : EnvOk a ((t, .bool c) :: E) n := ⟨ha.defers, ha.size, fun t' v' h' => by
  simp only [Env.get] at h'
  cases hbq : Nat.beq t t' with
  | true =>
    simp only [hbq, cond_true, Option.some.injEq] at h'
    have := Nat.eq_of_beq_eq_true hbq
    subst this; subst h'
    rw [← hb]; exact ha.get t _ hv
  | false =>
    simp only [hbq, cond_false] at h'
    exact ha.get t' v' h'⟩
theorem w_gset {dst : Option Tmp} {op : Op} {g : Nat × Bool} {t : Tmp} {b : Bool} (c : Bool) (hg : guardT l g = some t) (hv : E.get t = some (.bool b)) (hb : b = c) (h : Wd w0 M H (XR P l n Q ((t, .bool c) :: E) (⟨dst, op, ty, pos, after, some g⟩ :: L))) : Wd w0 M H (XR P l n Q E (⟨dst, op, ty, pos, after, some g⟩ :: L)) :=
  fun w hw ops ho => ⟨fun q a ha => (h w hw ops ho).run q a (envOk_as ha hv hb)⟩
theorem w_gsplit {dst : Option Tmp} {op : Op} {g : Nat × Bool} {t : Tmp} {b : Bool} (hg : guardT l g = some t) (hv : E.get t = some (.bool b)) (h1 : b = true → Wd w0 M H (XR P l n Q ((t, .bool true) :: E) (⟨dst, op, ty, pos, after, some g⟩ :: L))) (h0 : b = false → Wd w0 M H (XR P l n Q ((t, .bool false) :: E) (⟨dst, op, ty, pos, after, some g⟩ :: L))) :
    Wd w0 M H (XR P l n Q E (⟨dst, op, ty, pos, after, some g⟩ :: L)) := by
  cases hb : b with
  | true => exact w_gset true hg hv hb (h1 hb)
  | false => exact w_gset false hg hv hb (h0 hb)
/-- A temporary's value in other words. -/
theorem w_as (t : Tmp) {v : Value} (u : Value) (hv : E.get t = some v) (hu : v = u) (h : Wd w0 M H (XR P l n Q ((t, u) :: E) L)) : Wd w0 M H (XR P l n Q E L) :=
  fun w hw ops ho => ⟨fun q a ha => (h w hw ops ho).run q a ⟨ha.defers, ha.size, fun t' v' h' => by
    simp only [Env.get] at h'
    cases hbq : Nat.beq t t' with
    | true =>
      simp only [hbq, cond_true, Option.some.injEq] at h'
      have := Nat.eq_of_beq_eq_true hbq
      subst this; subst h'
      rw [← hu]; exact ha.get t _ hv
    | false =>
      simp only [hbq, cond_false] at h'
      exact ha.get t' v' h'⟩⟩

/-! ### Operations -/
theorem w_g {op : Op} {v : Value} (hv : Gives P n E op ty v) (hn : Nat.blt d n.m = true) (h : Wd w0 M H (XR P l n Q ((d, v) :: E) L)) : Wd w0 M H (XR P l n Q E (⟨some d, op, ty, pos, after, none⟩ :: L)) :=
  fun w hw ops ho => xl_g hv hn (h w hw ops ho)
/-- A load out of known chunks. -/
structure Lds (P : Program) (n : Cx) (C : List Chunk) (E : Env) (op : Op) (ty : TypeId) (v : Value) : Prop where
  run : ∀ (dst : Option Tmp) (pos : String) (after : Array Edge) (g : Option (Nat × Bool)) (a : Act), EnvOk a E n → ∀ w, SC C w → (execOp a.eval ⟨dst, op, ty, pos, after, g⟩).run P w = .ok (.value v) w
theorem w_ld {op : Op} {v : Value} (hl : Lds P n H E op ty v) (hn : Nat.blt d n.m = true) (h : Wd w0 M H (XR P l n Q ((d, v) :: E) L)) : Wd w0 M H (XR P l n Q E (⟨some d, op, ty, pos, after, none⟩ :: L)) :=
  fun w hw ops ho => xl_step rfl rfl hn (fun a ha => hl.run _ _ _ _ a ha w hw.sc) (h w hw ops ho)
section
variable {C : List Chunk} {i : Nat} {x : Operand} {t : TypeId} {ti : TyI}
theorem ld_b (T : Tab P) {tb : TypeId} {b o : Nat} {cs : List Value} {v : Value} (hx : E.ev x = some (.pointer (some ⟨b, o, none⟩))) (hp : nthC C i = some (blk b cs tb)) (hv : Sx.nth cs o = some v) (ht : T.get t = some ti) (hi : isAggD ti.desc = false) : Lds P n C E (.load t x) ty v :=
  .mk <| fun _ _ _ _ a ha w hw => run_load_cell' T rfl (ha.eval hx) ht hi (by rw [blk_cell (hw.nth hp), ← nth_eq, hv])
theorem ld_bs (T : Tab P) {tb : TypeId} {b o : Nat} {cs vs : List Value} (hx : E.ev x = some (.pointer (some ⟨b, o, none⟩))) (hp : nthC C i = some (blk b cs tb)) (ht : T.get t = some ti) (hi : isAggD ti.desc = true) (hv : nths cs o ti.size = some vs) : Lds P n C E (.load t x) ty (.agg vs.toArray) :=
  .mk <| fun _ _ _ _ a ha w hw => run_load_cells' T rfl (ha.eval hx) ht hi (nths_spec hv).1 (fun j v hj => by
    rw [addr_add, blk_cell (hw.nth hp)]
    have hlt : j < vs.length := (List.getElem?_eq_some_iff.1 hj).1
    rw [(nths_spec hv).2 j (by rw [← (nths_spec hv).1]; exact hlt), hj])
theorem ld_r (T : Tab P) {g o cap e sz m : Nat} {xs : List Value} {v : Value} (hx : E.ev x = some (.pointer (some ⟨g, o, none⟩))) (hp : nthC C i = some (row (some ⟨g, 0, none⟩) cap e sz m xs)) (ht : T.get t = some ti) (hi : isAggD ti.desc = false) (hv : xs[o]? = some v) : Lds P n C E (.load t x) ty v :=
  .mk <| fun _ _ _ _ a ha w hw => run_load_cell' T rfl (ha.eval hx) ht hi (row_cell (hw.nth hp) o v hv)
theorem ld_rs (T : Tab P) {g o cap e sz m : Nat} {xs vs : List Value} (hx : E.ev x = some (.pointer (some ⟨g, o, none⟩))) (hp : nthC C i = some (row (some ⟨g, 0, none⟩) cap e sz m xs)) (ht : T.get t = some ti) (hi : isAggD ti.desc = true) (hv : (xs.drop o).take ti.size = vs) (hl : o + ti.size ≤ xs.length) : Lds P n C E (.load t x) ty (.agg vs.toArray) :=
  .mk <| fun _ _ _ _ a ha w hw => run_load_cells' T rfl (ha.eval hx) ht hi (by rw [← hv, List.length_take, List.length_drop]; omega) (fun j v hj => by
    rw [addr_add]
    refine row_cell (hw.nth hp) (o + j) v ?_
    rw [← hv, List.getElem?_take] at hj
    split at hj
    · rwa [List.getElem?_drop] at hj
    · cases hj)
theorem ld_g (T : Tab P) {a ad : Addr} {j : Nat} {xs : List Value} {v : Value} (hx : E.ev x = some (.pointer (some ad))) (hp : nthC C i = some (rng (some a) xs)) (ht : T.get t = some ti) (hi : isAggD ti.desc = false) (ho : ad = a.add j) (hv : xs[j]? = some v) : Lds P n C E (.load t x) ty v :=
  .mk <| fun _ _ _ _ a ha w hw => run_load_cell' T rfl (ha.eval hx) ht hi (by rw [ho]; exact rng_cell (hw.nth hp) j v hv)
theorem ld_gs (T : Tab P) {a ad : Addr} {j : Nat} {xs vs : List Value} (hx : E.ev x = some (.pointer (some ad))) (hp : nthC C i = some (rng (some a) xs)) (ht : T.get t = some ti) (hi : isAggD ti.desc = true) (ho : ad = a.add j) (hv : (xs.drop j).take ti.size = vs) (hl : j + ti.size ≤ xs.length) : Lds P n C E (.load t x) ty (.agg vs.toArray) :=
  .mk <| fun _ _ _ _ a ha w hw => run_load_cells' T rfl (ha.eval hx) ht hi (by rw [← hv, List.length_take, List.length_drop]; omega) (fun k v hk => by
    rw [ho, add_add]
    refine rng_cell (hw.nth hp) (j + k) v ?_
    rw [← hv, List.getElem?_take] at hk
    split at hk
    · rwa [List.getElem?_drop] at hk
    · cases hk)
end

/-! ### Effects -/
/-- What an operation brings about: other values, other memory; x: what is not known beforehand. -/
structure Eff {α : Type} (P : Program) (n : Cx) (w0 : World) (M : Nat → Prop) (H : List Chunk) (E : Env) (dst : Option Tmp) (op : Op) (ty : TypeId) (φ : α → Prop) (E' : α → Env) (H' : α → List Chunk) : Prop where
  run : ∀ (pos : String) (after : Array Edge) (ops : Array Oper) (Q : Exit → Act → World → Prop) (L : List Oper) (w : World), St w0 M w H → (∀ x w', φ x → St w0 M w' (H' x) → XL P ops n Q (E' x) L w') → XL P ops n Q E (⟨dst, op, ty, pos, after, none⟩ :: L) w
theorem w_eff {α : Type} {dst : Option Tmp} {op : Op} {φ : α → Prop} {E' : α → Env} {Hn : α → List Chunk} (he : Eff P n w0 M H E dst op ty φ E' Hn) (h : ∀ x, φ x → Wd w0 M (Hn x) (XR P l n Q (E' x) L)) : Wd w0 M H (XR P l n Q E (⟨dst, op, ty, pos, after, none⟩ :: L)) :=
  fun w hw ops ho => he.run pos after ops Q L w hw (fun x w' hx hw' => h x hx w' hw' ops ho)
theorem w_eff0 {dst : Option Tmp} {op : Op} {E' : Env} (he : Eff (α := Unit) P n w0 M H E dst op ty (fun _ => True) (fun _ => E') (fun _ => H')) (h : Wd w0 M H' (XR P l n Q E' L)) : Wd w0 M H (XR P l n Q E (⟨dst, op, ty, pos, after, none⟩ :: L)) :=
  w_eff he (fun _ _ => h)
section
variable {x y : Operand} {t e : TypeId} {ti ie : TyI}
theorem eff_store {i : Nat} (T : Tab P) {tb : TypeId} {b o : Nat} {cs vs cs' : List Value} {v : Value} (hx : E.ev x = some (.pointer (some ⟨b, o, none⟩))) (hp : Sx.pick H i = some (blk b cs tb, H')) (hy : E.ev y = some v) (hv : cellsO v = some vs) (h1 : oneC vs = true)
    (hs : setsO cs o vs = some cs') (ht : T.get t = some ti) (hz : Nat.beq vs.length ti.size = true) (hne : vs ≠ []) : Eff (α := Unit) P n w0 M H E none (.store t x y) ty (fun _ => True) (fun _ => E) (fun _ => blk b cs' tb :: H') :=
  ⟨fun _ _ _ _ _ w hw h => xl_store T hw hx hp hy hv h1 hs ht hz hne (fun w' hw' => h () w' trivial hw')⟩
theorem eff_box {v : Value} {cs : List Value} (hx : E.ev x = some v) (hc : cellsO v = some cs) (hn : Nat.blt d n.m = true) : Eff P n w0 M H E (some d) (.box t x) ty (fun (_ : Nat) => True) (fun b => (d, .pointer (some ⟨b, 0, none⟩)) :: E) (fun b => blk b cs t :: H) :=
  ⟨fun _ _ _ _ _ w hw h => xl_box hw hx hc hn (fun b w' hw' => h b w' trivial hw')⟩
theorem eff_alloc (T : Tab P) {z : List Value} (ht : T.get t = some ti) (hz : ti.zero = z) (hn : Nat.blt d n.m = true) : Eff P n w0 M H E (some d) (.alloc t) ty (fun (_ : Nat) => True) (fun b => (d, .pointer (some ⟨b, 0, none⟩)) :: E) (fun b => blk b z t :: H) := by
  subst hz
  exact ⟨fun _ _ _ _ _ w hw h => xl_alloc T hw ht hn (fun b w' hw' => h b w' trivial hw')⟩
theorem eff_buildSlice (T : Tab P) {i : TyI} {len : Nat} {parts : Array (Nat × Operand)} {vs : List (Nat × Value)} {zs cs : List Value} (ht : T.get t = some i) (hi : i.desc = .slice e) (he : T.get e = some ie)
    (hp : E.evps parts.toList = some vs) (hz : zerosL len ie.zero = some zs) (hc : fillL (placeS ie.size) zs vs = some cs) (hsm : Nat.ble (len * ie.size) 16777216 = true) (hpos : Nat.blt 0 (len * ie.size) = true) (hze : Nat.beq ie.zero.length ie.size = true) (hn : Nat.blt d n.m = true) :
    Eff P n w0 M H E (some d) (.buildSlice t len parts) ty (fun (_ : Nat) => True) (fun b => (d, .slice (some ⟨b, 0, none⟩) len len) :: E) (fun b => blk b cs e :: H) :=
  ⟨fun _ _ _ _ _ w hw h => xl_buildSlice T hw ht hi he hp hz hc hsm hpos hze hn (fun b w' hw' => h b w' trivial hw')⟩
theorem eff_append {i j : Nat} (T : Tab P) {s : Operand} {eb : TypeId} {ao : Option Addr} {len cap sz : Nat} {xs : List Value} {b m c : Nat} {news : List Value} {H'' : List Chunk}
    (hs : E.ev s = some (.slice ao len cap)) (hx : E.ev x = some (.slice (some ⟨b, 0, none⟩) m c)) (hpb : Sx.pick H j = some (blk b news eb, H'')) (hp : Sx.pick H'' i = some (row ao cap e sz len xs, H')) (ht : T.get t = some ti) (hti : ti.desc = .slice e) (he : T.get e = some ie) (hsz : Nat.beq ie.size sz = true) (hpos : Nat.blt 0 sz = true) (hzl : Nat.beq ie.zero.length sz = true)
    (hn : Nat.blt d n.m = true) (hl : Nat.beq news.length (m * sz) = true) (h1 : oneC news = true) (hbytes : (len + m) * ie.bytes ≤ 140737488355328) (hmax : len + m ≤ maxLen) :
    Eff P n w0 M H E (some d) (.call { callee := .builtin .append, args := #[s, x], argTypes := #[t, t] }) ty (fun (z : Option Addr × Nat) => len + m ≤ z.2 ∧ (m ≠ 0 ∨ len ≠ 0 → ∃ g, z.1 = some ⟨g, 0, none⟩)) (fun z => (d, .slice z.1 (len + m) z.2) :: E) (fun z => row z.1 z.2 e sz (len + m) (xs ++ news) :: H') :=
  ⟨fun _ _ _ _ _ w hw h => xl_append T hw hs hx hpb hp ht hti he hsz hpos hzl hn hl h1 hbytes hmax (fun a c w' hw' h1 h2 => h (a, c) w' ⟨h1, h2⟩ hw')⟩
theorem eff_appendRow {i j : Nat} (T : Tab P) {s : Operand} {e2 : TypeId} {ao as : Option Addr} {len cap sz m c c2 n2 : Nat} {xs xs2 : List Value}
    (hs : E.ev s = some (.slice ao len cap)) (hx : E.ev x = some (.slice as m c)) (hp : Sx.pick H i = some (row ao cap e sz len xs, H')) (hp2 : nthC H' j = some (row as c2 e2 sz n2 xs2)) (ht : T.get t = some ti) (hti : ti.desc = .slice e) (he : T.get e = some ie) (hsz : Nat.beq ie.size sz = true) (hpos : Nat.blt 0 sz = true) (hzl : Nat.beq ie.zero.length sz = true)
    (hn : Nat.blt d n.m = true) (hm : m ≤ n2) (h1 : ∀ u ∈ xs2, u.oneCell' = true) (hbytes : (len + m) * ie.bytes ≤ 140737488355328) (hmax : len + m ≤ maxLen) :
    Eff P n w0 M H E (some d) (.call { callee := .builtin .append, args := #[s, x], argTypes := #[t, t] }) ty (fun (z : Option Addr × Nat) => len + m ≤ z.2) (fun z => (d, .slice z.1 (len + m) z.2) :: E) (fun z => row z.1 z.2 e sz (len + m) (xs ++ xs2.take (m * sz)) :: H') :=
  ⟨fun _ _ _ _ _ w hw h => xl_append_row T hw hs hx hp hp2 ht hti he hsz hpos hzl hn hm h1 hbytes hmax (fun a c w' hw' h1 => h (a, c) w' h1 hw')⟩
theorem eff_call {α : Type} (is : List Nat) {f : FuncId} {vs : List Value} {A B R : List Chunk} {val : α → Value} {out : α → List Chunk} {Φ : α → Prop} {args : Array Operand} {ts : Array TypeId} (hs : FnC P f vs A B val out Φ)
    (ha : E.evs args.toList = some vs) (hp : picks is H = some (A, R)) (hl : LendsAll R B) (ho : ∀ x, allW (out x) = true) (hn : Nat.blt d n.m = true) :
    Eff P n w0 M H E (some d) (.call { callee := .value (.func f), args := args, argTypes := ts }) ty Φ (fun z => (d, val z) :: E) (fun z => out z ++ R) :=
  ⟨fun _ _ _ _ _ w hw h => xl_call is hs hw ha hp hl ho hn (fun z w' hw' hz => h z w' hz hw')⟩
end
/-- A call by its contract. -/
theorem w_call {α : Type} (is : List Nat) {f : FuncId} {vs : List Value} {A B R : List Chunk} {val : α → Value} {out : α → List Chunk} {Φ : α → Prop} {args : Array Operand} {ts : Array TypeId} (hs : FnC P f vs A B val out Φ)
    (ha : E.evs args.toList = some vs) (hp : picks is H = some (A, R)) (hl : LendsAll R B) (ho : ∀ x, allW (out x) = true) (hn : Nat.blt d n.m = true) (h : ∀ z, Φ z → Wd w0 M (out z ++ R) (XR P l n Q ((d, val z) :: E) L)) :
    Wd w0 M H (XR P l n Q E (⟨some d, .call { callee := .value (.func f), args := args, argTypes := ts }, ty, pos, after, none⟩ :: L)) := w_eff (eff_call is hs ha hp hl ho hn) h

/-- What is read alone, lent as it is. -/
theorem lend_cons {c : Chunk} {R B : List Chunk} {k : Nat} (hwr : c.wr = false) (hp : nthC R k = some c) (h : LendsAll R B) : LendsAll R (c :: B) := ⟨⟨hwr, fun k hk => ⟨c, nthC_mem hp, hk⟩, fun w hw => hw c (nthC_mem hp)⟩, h⟩

/-! ### Loops -/
theorem w_loop {α : Type} {c : Code} (Ev : α → Env) (Hv : α → List Chunk) (φ : α → Prop) (μ : α → Nat) (x0 : α) (hE : EnvSub E (Ev x0)) (hH : H = Hv x0) (hφ : φ x0)
    (round : ∀ x, φ x → ∀ K : Act → World → Prop, (∀ y E', φ y → μ y < μ x → EnvSub E' (Ev y) → Wd w0 M (Hv y) (fun w => ∀ a, EnvOk a E' n → K a w)) → Wd w0 M (Hv x) (XC P n (Exit.then K Q) (Ev x) c)) : Wd w0 M H (XC P n Q E (.loop c)) :=
  fun w hw => xc_loop Ev Hv φ μ x0 hw hE hH hφ (fun x w hx hw K hK => round x hx K (fun y E' hy hlt hs w' hw' a ha => hK y E' w' hy hlt hw' hs a ha) w hw)
theorem w_round {α : Type} {K : Act → World → Prop} {Ev : α → Env} {Hv : α → List Chunk} {φ : α → Prop} {μ : α → Nat} {x : α} (hK : ∀ y E', φ y → μ y < μ x → EnvSub E' (Ev y) → Wd w0 M (Hv y) (fun w => ∀ a, EnvOk a E' n → K a w))
    (y : α) (hφ : φ y) (hμ : μ y < μ x) (hH : H = Hv y) (hE : EnvSub E (Ev y)) : Wd w0 M H (XQ n (Exit.then K Q) .normal E) := by
  subst hH
  exact fun w hw => ⟨fun q a ha => hK y E hφ hμ hE w hw a ha⟩

/-! ### Regions that draw their order -/
section
variable {Hk Hs : List Chunk} {S : World → Prop} {ls ord : List Nat} {fuel i : Nat} {listed : Array Bool} {g : Option (Nat × Bool)}
theorem w_draw (hm : P.follows .mixedOrders = true) (ord ls places : List Nat) {id : Nat} (hd : noDef l = true) (hs : nthsC H places = some Hs) (h : WS w0 M H Hs (XO P l n Q (SC Hs) ls E ord l.toArray.size (Array.replicate l.toArray.size false))) :
    Wd w0 M H (XC P n Q E (.region id l.toArray true)) := fun w hw => xc_drawn hm ls places hd hw hs (fun w' hw' hs' => (h w' hw' hs').run)
theorem wa_g {op : Op} {v : Value} (hi : nthO l i = some ⟨some d, op, ty, pos, after, g⟩) (hg : guardYes l E g = true) (hv : Gives P n E op ty v) (hn : Nat.blt d n.m = true) (hc : chk l.toArray listed i = true)
    (h : WS w0 M H Hk (XO P l n Q S ls ((d, v) :: E) ord fuel (listed.setIfInBounds i true))) : WS w0 M H Hk (XO P l n Q S ls E (i :: ord) (fuel + 1) listed) := fun w hw hs => ⟨xa_g i hi hg hv hn hc ((h w hw hs).run)⟩
theorem wa_skip {oi : Oper} (hi : nthO l i = some oi) (hg : guardNo l E oi.guard = true) (hd : oi.dst = some d) (hn : Nat.blt d n.m = true) (hc : chk l.toArray listed i = true)
    (h : WS w0 M H Hk (XO P l n Q S ls ((d, undef) :: E) ord fuel (listed.setIfInBounds i true))) : WS w0 M H Hk (XO P l n Q S ls E (i :: ord) (fuel + 1) listed) := fun w hw hs => ⟨xa_skip i hi hg hd hn hc ((h w hw hs).run)⟩
theorem wa_ld {op : Op} {v : Value} (hi : nthO l i = some ⟨some d, op, ty, pos, after, g⟩) (hg : guardYes l E g = true) (hv : Lds P n Hs E op ty v) (hn : Nat.blt d n.m = true) (hc : chk l.toArray listed i = true) (hl : ls.contains i = true)
    (h : WS w0 M H Hs (XO P l n Q (SC Hs) ls ((d, v) :: E) ord fuel (listed.setIfInBounds i true))) : WS w0 M H Hs (XO P l n Q (SC Hs) ls E (i :: ord) (fuel + 1) listed) := fun w hw hs =>
  ⟨xa_take hi hc rfl hn (S' := SC Hs) (.inr ⟨rfl, by simpa using hl⟩) hs (fun a ha => .inl ⟨wanted_yes hg ha, fun w' hw' => hv.run _ _ _ _ a ha w' hw'⟩) ((h w hw hs).run)⟩
theorem wa_gq {op : Op} {v : Value} (hi : nthO l i = some ⟨some d, op, ty, pos, after, g⟩) (hr : (Region.ready .any l.toArray listed == [i]) = true) (hg : guardYes l E g = true) (hv : Gives P n E op ty v) (hn : Nat.blt d n.m = true) (hq' : quietI l.toArray i = true)
    (h : WS w0 M H Hk (XO P l n Q S ls ((d, v) :: E) ord fuel (listed.setIfInBounds i true))) : WS w0 M H Hk (XO P l n Q S ls E (i :: ord) (fuel + 1) listed) := fun w hw hs =>
  ⟨xa_eff i hi hr (fun K hK ops ho => xl_yes ho hg (xl_g hv hn (xl_nil (xq_any hK (owed_quiet hq') ((h w hw hs).run)))))⟩
theorem wa_ldq {op : Op} {v : Value} (hi : nthO l i = some ⟨some d, op, ty, pos, after, g⟩) (hr : (Region.ready .any l.toArray listed == [i]) = true) (hg : guardYes l E g = true) (hv : Lds P n H E op ty v) (hn : Nat.blt d n.m = true) (hq' : quietI l.toArray i = true)
    (h : WS w0 M H Hk (XO P l n Q S ls ((d, v) :: E) ord fuel (listed.setIfInBounds i true))) : WS w0 M H Hk (XO P l n Q S ls E (i :: ord) (fuel + 1) listed) := fun w hw hs =>
  ⟨xa_eff i hi hr (fun K hK ops ho => xl_yes ho hg (xl_step rfl rfl hn (fun a ha => hv.run _ _ _ _ a ha w hw.sc) (xl_nil (xq_any hK (owed_quiet hq') ((h w hw hs).run)))))⟩
/-- What holds of all chunks of H holds of those. -/
def Sub (Hs H : List Chunk) : Prop := ∀ w, SC H w → SC Hs w
theorem sub_nil : Sub [] H := fun _ _ => sc_nil
theorem sub_cons {c : Chunk} {k : Nat} (hp : nthC H k = some c) (h : Sub Hs H) : Sub (c :: Hs) H := fun w hw x hx => by
  rcases List.mem_cons.1 hx with rfl | hx
  · exact hw.nth hp
  · exact h w hw x hx
theorem wa_eff {α : Type} {dst : Option Tmp} {op : Op} {φ : α → Prop} {E' : α → Env} {Hn : α → List Chunk} (hi : nthO l i = some ⟨dst, op, ty, pos, after, g⟩) (hr : (Region.ready .any l.toArray listed == [i]) = true) (hg : guardYes l E g = true) (he : Eff P n w0 M H E dst op ty φ E' Hn) (hq' : quietI l.toArray i = false) (hk : ∀ z, Sub Hs (Hn z))
    (h : ∀ z, φ z → WS w0 M (Hn z) Hs (XO P l n Q (SC Hs) ls (E' z) ord fuel (listed.setIfInBounds i true))) : WS w0 M H Hk (XO P l n Q (SC Hs) ls E (i :: ord) (fuel + 1) listed) := fun w hw hs =>
  ⟨xa_eff i hi hr (fun K hK ops ho => xl_yes ho hg (he.run _ _ _ _ _ w hw (fun z w' hz hw' => xl_nil (xq_any hK (owed_some hq' (hk z w' hw'.sc)) ((h z hz w' hw' (hk z w' hw'.sc)).run)))))⟩
theorem wa_effd {α : Type} {dst : Option Tmp} {op : Op} {φ : α → Prop} {E' : α → Env} {Hn : α → List Chunk} (hi : nthO l i = some ⟨dst, op, ty, pos, after, g⟩) (hr : (Region.ready .any l.toArray listed == [i]) = true) (hg : guardYes l E g = true) (he : Eff P n w0 M H E dst op ty φ E' Hn) (hq' : quietI l.toArray i = false) (hk : keepS l.toArray ls i = false)
    (h : ∀ z, φ z → WS w0 M (Hn z) [] (XO P l n Q S ls (E' z) ord fuel (listed.setIfInBounds i true))) : WS w0 M H Hk (XO P l n Q S ls E (i :: ord) (fuel + 1) listed) := fun w hw hs =>
  ⟨xa_eff i hi hr (fun K hK ops ho => xl_yes ho hg (he.run _ _ _ _ _ w hw (fun z w' hz hw' => xl_nil (xq_any hK (owed_none hq' hk) ((h z hz w' hw' sc_nil).run)))))⟩
theorem wa_effd0 {dst : Option Tmp} {op : Op} {E' : Env} (hi : nthO l i = some ⟨dst, op, ty, pos, after, g⟩) (hr : (Region.ready .any l.toArray listed == [i]) = true) (hg : guardYes l E g = true) (he : Eff (α := Unit) P n w0 M H E dst op ty (fun _ => True) (fun _ => E') (fun _ => H')) (hq' : quietI l.toArray i = false) (hk : keepS l.toArray ls i = false)
    (h : WS w0 M H' [] (XO P l n Q S ls E' ord fuel (listed.setIfInBounds i true))) : WS w0 M H Hk (XO P l n Q S ls E (i :: ord) (fuel + 1) listed) := wa_effd hi hr hg he hq' hk (fun _ _ => h)
theorem wa_eff0 {dst : Option Tmp} {op : Op} {E' : Env} (hi : nthO l i = some ⟨dst, op, ty, pos, after, g⟩) (hr : (Region.ready .any l.toArray listed == [i]) = true) (hg : guardYes l E g = true) (he : Eff (α := Unit) P n w0 M H E dst op ty (fun _ => True) (fun _ => E') (fun _ => H')) (hq' : quietI l.toArray i = false) (hk : Sub Hs H')
    (h : WS w0 M H' Hs (XO P l n Q (SC Hs) ls E' ord fuel (listed.setIfInBounds i true))) : WS w0 M H Hk (XO P l n Q (SC Hs) ls E (i :: ord) (fuel + 1) listed) := wa_eff hi hr hg he hq' (fun _ => hk) (fun _ _ => h)
theorem wa_done (hr : (Region.ready .any l.toArray listed == []) = true) (h : Wd w0 M H (XQ n Q .normal E)) : WS w0 M H Hk (XO P l n Q S ls E [] fuel listed) := fun w hw _ => ⟨xa_done hr (h w hw)⟩
theorem wa_use {p : Prop} (hp : ∀ w, St w0 M w H → p) (h : p → WS w0 M H Hk G) : WS w0 M H Hk G := fun w hw => h (hp w hw) w hw
theorem wa_eskip {dst : Option Tmp} {op : Op} (hi : nthO l i = some ⟨dst, op, ty, pos, after, g⟩) (hr : (Region.ready .any l.toArray listed == [i]) = true) (hg : guardNo l E g = true) (hd : dst = some d) (hn : Nat.blt d n.m = true) (hq' : quietI l.toArray i = false)
    (h : WS w0 M H Hs (XO P l n Q (SC Hs) ls ((d, undef) :: E) ord fuel (listed.setIfInBounds i true))) : WS w0 M H Hs (XO P l n Q (SC Hs) ls E (i :: ord) (fuel + 1) listed) := fun w hw hs =>
  ⟨xa_eff i hi hr (fun K hK ops ho => ⟨fun q a ha => wpList_skip (by have := wanted_no (o := ⟨dst, op, ty, pos, after, g⟩) hg ha; rw [← ho] at this; simpa using this) (by subst hd; exact (xl_nil (xq_any hK (owed_some hq' hs) ((h w hw hs).run))).run q _ (ha.put hn))⟩)⟩
end
end
end Go.Sx

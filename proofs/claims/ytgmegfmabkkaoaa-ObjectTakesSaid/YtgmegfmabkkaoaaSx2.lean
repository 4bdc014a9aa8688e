/- Small rules for symbolic steps, the second part: code, regions, loops, calls. Program-independent. -/
import Derived.Test.YtgmegfmabkkaoaaSx1
import Derived.RangeFuncRecord
import Derived.RangeFuncLeaves
import Derived.OwnWalkIn
import Derived.OrdersIn
import Derived.LoopNIn
import Derived.TacticsIn
set_option linter.unusedVariables false
namespace Go.Sx
open Go

/-- The wide fence, within a round or not. -/
def FW (ro : Option Nat) : Fence := { fn := fun _ => True, depth := none, alive := false, round := ro }
/-- What is asked at the end: a panic's does not hang on the temporaries; memory does not run out. -/
structure QOk (Q : Exit → Act → World → Prop) : Prop where
  panic : ∀ c a a' w, a'.defers = a.defers → Q (.panic c) a w → Q (.panic c) a' w
  out : ∀ a w, ¬ Q .outgrown a w
theorem QOk.then {K : Act → World → Prop} {Q : Exit → Act → World → Prop} (h : QOk Q) : QOk (Exit.then K Q) := ⟨h.panic, h.out⟩
theorem QOk.block {id : Nat} {Q : Exit → Act → World → Prop} (h : QOk Q) : QOk (Exit.inBlock id Q) := ⟨h.panic, h.out⟩
theorem calls_fw {ro : Option Nat} {P : Program} {f : FuncId} {args : Array Value} {w : World} {R : Ending → World → Prop} (h : Calls P f args w R) : CallsIn (FW ro) 0 P f args w R := (callsIn_wide (n := 0)).2 h
theorem rows_fw {ro : Option Nat} {P : Program} {row : String} {args : Array Value} {w : World} {R : Value → World → Prop} (h : Rows P row args w R) : RowsIn (FW ro) 0 P row args w R :=
  fun c cs _ => let ⟨v, w', r, s⟩ := h c cs; ⟨v, w', r, stepsIn_wide.2 s⟩
theorem oper_fw {ro : Option Nat} {P : Program} {o : Oper} {a : Act} {w : World} {K : Act → World → Prop} {Q : Exit → Act → World → Prop} (hd : ∀ c, o.op ≠ .defer c) (h : o.wp P a w K Q) : o.wpIn (FW ro) 0 P a w K Q := by
  refine ⟨fun _ _ => trivial, ?_⟩
  rw [show o.semAt (FW ro).round a.eval = execOp a.eval o from Oper.semAt_eq _ _ _ hd]
  unfold Oper.wp at h
  generalize (execOp a.eval o).run P w = r at h ⊢
  cases r with
  | ok x w' =>
    cases x with
    | enter f args => exact ⟨fun h => (by cases h), calls_fw h⟩
    | row r args => exact ⟨fun h => (by cases h), rows_fw h⟩
    | _ => first | exact h | exact h.elim
  | halt x w' => cases x <;> first | exact h | exact h.elim
def noDef : List Oper → Bool
  | [] => true
  | o :: L => match o.op with
    | .defer _ => false
    | _ => noDef L
theorem noDef_mem : ∀ {L : List Oper}, noDef L = true → ∀ o ∈ L, ∀ c, o.op ≠ .defer c
  | [], _, o, ho => by simp at ho
  | x :: L, h, o, ho => by
    simp only [noDef] at h
    split at h
    · cases h
    · rename_i hx
      rcases List.mem_cons.1 ho with rfl | ho
      · exact hx
      · exact noDef_mem h o ho
theorem list_fw {ro : Option Nat} {P : Program} {ops : Array Oper} {Q : Exit → Act → World → Prop} (hq : QOk Q) : ∀ {L : List Oper} {a : Act} {w : World}, noDef L = true → wpList P ops Q L a w → wpListIn (FW ro) 0 P ops Q L a w
  | [], a, w, _, h => h
  | o :: L, a, w, hd, h => by
    have hd1 := noDef_mem hd o (by simp)
    have hd2 : noDef L = true := by
      unfold noDef at hd
      cases ho : o.op <;> simp only [ho] at hd <;> first | exact hd | (exact absurd ho (hd1 _))
    unfold wpList at h
    unfold wpListIn
    split
    · rename_i hw
      rw [if_pos hw] at h
      rcases h with h | ⟨_, x, y, h⟩
      · exact oper_fw hd1 (Oper.wp_mono (fun a w h => list_fw hq hd2 h) h)
      · exact absurd h (hq.out _ _)
    · rename_i hw
      rw [if_neg hw] at h
      exact ⟨fun _ _ => trivial, list_fw hq hd2 h⟩
theorem op_fw {ro : Option Nat} {P : Program} {ops : Array Oper} {Q : Exit → Act → World → Prop} (hq : QOk Q) (hd : ∀ o ∈ ops.toList, ∀ c, o.op ≠ .defer c) {i : Nat} {K K' : Act → World → Prop} (hK : ∀ a w, K a w → K' a w) {a : Act} {w : World} (h : wpOp P ops Q i K a w) : wpOpIn (FW ro) 0 P ops Q i K' a w := by
  unfold wpOp at h
  unfold wpOpIn
  cases ho : ops[i]? with
  | none => rw [ho] at h; exact hK _ _ h
  | some o =>
    rw [ho] at h
    simp only [] at h ⊢
    have hm : o ∈ ops.toList := by
      have := Array.mem_of_getElem? ho
      simpa using this
    split
    · rename_i hw
      rw [if_pos hw] at h
      rcases h with h | ⟨_, x, y, h⟩
      · exact oper_fw (hd o hm) (Oper.wp_mono hK h)
      · exact absurd h (hq.out _ _)
    · rename_i hw
      rw [if_neg hw] at h
      exact ⟨fun _ _ => trivial, hK _ _ h⟩
theorem any_fw {ro : Option Nat} {P : Program} {ops : Array Oper} {Q : Exit → Act → World → Prop} (hq : QOk Q) (hd : ∀ o ∈ ops.toList, ∀ c, o.op ≠ .defer c) : ∀ (fuel : Nat) (listed : Array Bool) (a : Act) (w : World), wpAny P .any ops Q fuel listed a w → wpAnyIn (FW ro) 0 P .any ops Q fuel listed a w
  | 0, _, _, _, h => h
  | fuel + 1, _, _, _, h => ⟨h.1, fun i hi => op_fw hq hd (fun a w h => any_fw hq hd fuel _ a w h) (h.2 i hi)⟩

structure XC (P : Program) (n : Cx) (Q : Exit → Act → World → Prop) (E : Env) (c : Code) (w : World) : Prop where
  run : QOk Q → ∀ a, EnvOk a E n → c.wpIn (FW n.ro) 0 P Q a w
structure XL (P : Program) (ops : Array Oper) (n : Cx) (Q : Exit → Act → World → Prop) (E : Env) (L : List Oper) (w : World) : Prop where
  run : QOk Q → ∀ a, EnvOk a E n → wpList P ops Q L a w
structure XQ (n : Cx) (Q : Exit → Act → World → Prop) (e : Exit) (E : Env) (w : World) : Prop where
  run : QOk Q → ∀ a, EnvOk a E n → Q e a w

section
variable {P : Program} {n : Cx} {Q : Exit → Act → World → Prop} {E : Env} {w : World}

theorem envOk_enter {args : List Value} {m : Nat} (hm : Nat.ble args.length m = true) :
    EnvOk { tmps := args.toArray ++ Array.replicate (m - args.toArray.size) undef, defers := [] } (Env.ofArgs 0 args) ⟨m, [], none⟩ := by
  have hm' : args.length ≤ m := Nat.le_of_ble_eq_true hm
  refine ⟨rfl, by simp; omega, fun t v h => ?_⟩
  obtain ⟨_, h2⟩ := Env.get_ofArgs args 0 t v h
  simp only [Nat.sub_zero] at h2
  have hlt : t < args.length := (List.getElem?_eq_some_iff.1 h2).1
  rw [Array.getElem?_append_left (by simpa using hlt)]
  simpa using h2

theorem qok_body {fn : Func} {R : Ending → World → Prop} (hR : ∀ w, ¬ R .outgrown w) : QOk (bodyPost P fn R) := ⟨fun c a a' w hd h => by
  obtain ⟨h1, h2⟩ := h
  exact ⟨hd.trans h1, h2⟩, fun a w h => hR w h⟩
/-- Into a function. -/
theorem x_enter {f : FuncId} {fn : Func} {c : Code} {args : List Value} {R : Ending → World → Prop} {m : Nat} (hf : P.funcs[f]? = some fn) (hn : fn.ntmps = m) (hb : fn.body = some c) (hm : Nat.ble args.length m = true)
    (hR : ∀ w, ¬ R .outgrown w) (h : XC P ⟨m, [], none⟩ (bodyPost P fn R) (Env.ofArgs 0 args) c w) : Calls P f args.toArray w R :=
  calls_of_wp hf hb ((wpIn_wide (n := 0)).1 (h.run (qok_body hR) _ (by rw [hn]; exact envOk_enter hm)))


theorem xc_weak {F : Env} {c : Code} (hs : EnvSub E F) (h : XC P n Q F c w) : XC P n Q E c w := ⟨fun q a ha => h.run q a (ha.sub hs)⟩
theorem xc_seq {x y : Code} (h : ∀ K : Act → World → Prop, (∀ a w, y.wpIn (FW n.ro) 0 P Q a w → K a w) → XC P n (Exit.then K Q) E x w) : XC P n Q E (.seq x y) w :=
  ⟨fun q a ha => wpIn_seq_k fun K hK => (h K hK).run q.then a ha⟩
theorem xc_skip (h : XQ n Q .normal E w) : XC P n Q E .skip w := ⟨fun q a ha => wpIn_skip (h.run q a ha)⟩
theorem xc_ret (h : XQ n Q .ret E w) : XC P n Q E .ret w := ⟨fun q a ha => wpIn_ret (h.run q a ha)⟩
theorem xc_exit {id : Nat} (h : XQ n Q (.exit id) E w) : XC P n Q E (.exit id) w := ⟨fun q a ha => wpIn_exit (h.run q a ha)⟩
theorem xc_label {l : Nat} (h : XQ n Q .normal E w) : XC P n Q E (.label l) w := ⟨fun q a ha => wpIn_label (h.run q a ha)⟩
theorem xc_block {id : Nat} {c : Code} (h : XC P n (Exit.inBlock id Q) E c w) : XC P n Q E (.block id c) w := ⟨fun q a ha => wpIn_block (h.run q.block a ha)⟩
theorem xc_cond_true {c : Operand} {x y : Code} (hc : E.ev c = some (.bool true)) (h : XC P n Q E x w) : XC P n Q E (.cond c x y) w := ⟨fun q a ha => wpIn_cond_true (ha.eval hc) (h.run q a ha)⟩
theorem xc_cond_false {c : Operand} {x y : Code} (hc : E.ev c = some (.bool false)) (h : XC P n Q E y w) : XC P n Q E (.cond c x y) w := ⟨fun q a ha => wpIn_cond_false (ha.eval hc) (h.run q a ha)⟩
theorem xc_cond {c : Operand} {x y : Code} {b : Bool} (hc : E.ev c = some (.bool b)) (ht : b = true → XC P n Q E x w) (hf : b = false → XC P n Q E y w) : XC P n Q E (.cond c x y) w :=
  ⟨fun q a ha => wpIn_cond_split (ha.eval hc) (fun h => (ht h).run q a ha) (fun h => (hf h).run q a ha)⟩
theorem xc_region {id : Nat} {l : List Oper} (hd : noDef l = true) (h : ∀ ops : Array Oper, ops.toList = l → XL P ops n Q E l w) : XC P n Q E (.region id l.toArray false) w :=
  ⟨fun q a ha => wpIn_region_list (list_fw q (by simpa using hd) (by simpa using (h l.toArray (by simp)).run q a ha))⟩

theorem xl_nil {ops : Array Oper} (h : XQ n Q .normal E w) : XL P ops n Q E [] w := ⟨fun q a ha => wpList_nil (h.run q a ha)⟩

theorem xq_then {K : Act → World → Prop} {y : Code} {Q' : Exit → Act → World → Prop} (hK : ∀ a w, y.wpIn (FW n.ro) 0 P Q' a w → K a w) (hq : QOk Q') (h : XC P n Q' E y w) : XQ n (Exit.then K Q) .normal E w := ⟨fun q a ha => hK a w (h.run hq a ha)⟩
theorem xq_then_ret {K : Act → World → Prop} (h : XQ n Q .ret E w) : XQ n (Exit.then K Q) .ret E w := ⟨fun q a ha => h.run ⟨q.panic, q.out⟩ a ha⟩
theorem xq_then_exit {K : Act → World → Prop} {id : Nat} (h : XQ n Q (.exit id) E w) : XQ n (Exit.then K Q) (.exit id) E w := ⟨fun q a ha => h.run ⟨q.panic, q.out⟩ a ha⟩
theorem xq_then_goto {K : Act → World → Prop} {id : Nat} (h : XQ n Q (.goto id) E w) : XQ n (Exit.then K Q) (.goto id) E w := ⟨fun q a ha => h.run ⟨q.panic, q.out⟩ a ha⟩
theorem xq_in_normal {id : Nat} (h : XQ n Q .normal E w) : XQ n (Exit.inBlock id Q) .normal E w := ⟨fun q a ha => h.run ⟨q.panic, q.out⟩ a ha⟩
theorem xq_in_ret {id : Nat} (h : XQ n Q .ret E w) : XQ n (Exit.inBlock id Q) .ret E w := ⟨fun q a ha => h.run ⟨q.panic, q.out⟩ a ha⟩
theorem xq_in_goto {id l : Nat} (h : XQ n Q (.goto l) E w) : XQ n (Exit.inBlock id Q) (.goto l) E w := ⟨fun q a ha => h.run ⟨q.panic, q.out⟩ a ha⟩
theorem xq_in_exit {id : Nat} (h : XQ n Q .normal E w) : XQ n (Exit.inBlock id Q) (.exit id) E w := ⟨fun q a ha => by
  show (if id = id then Q .normal a w else Q (.exit id) a w)
  rw [if_pos rfl]; exact h.run ⟨q.panic, q.out⟩ a ha⟩
theorem xq_in_other {id id' : Nat} (hne : Nat.beq id' id = false) (h : XQ n Q (.exit id') E w) : XQ n (Exit.inBlock id Q) (.exit id') E w := ⟨fun q a ha => by
  show (if id' = id then Q .normal a w else Q (.exit id') a w)
  rw [if_neg (fun e => by subst e; simp at hne)]; exact h.run ⟨q.panic, q.out⟩ a ha⟩

/-- The end of a function: by what it returns. -/
theorem xq_ret {fn : Func} {R : Ending → World → Prop} {e : Exit} {v : Value} (hds : n.ds = []) (he : e = .ret ∨ e = .normal) (hr : ∀ a, EnvOk a E n → (results fn a.tmps).run P w = .ok v w) (h : R (.returned v) w) : XQ n (bodyPost P fn R) e E w := by
  refine ⟨fun q a ha => ?_⟩
  rcases he with rfl | rfl <;> exact ⟨ha.defers.trans hds, v, hr a ha, h⟩
theorem results0 {fn : Func} (h : fn.results = #[]) : ∀ a, EnvOk a E n → (results fn a.tmps).run P w = .ok (.tuple #[]) w := fun a _ => results_none h a.tmps P w
theorem results1 {fn : Func} {t : Tmp} {v : Value} (h : fn.results = #[.tmp t]) (hv : E.get t = some v) : ∀ a, EnvOk a E n → (results fn a.tmps).run P w = .ok v w := fun a ha => by
  rw [results_tmp h a.tmps P w, Array.getD_eq_getD_getElem?, ha.get t v hv]; rfl
theorem results2 {fn : Func} {t u : Tmp} {v x : Value} (h : fn.results = #[.tmp t, .tmp u]) (hv : E.get t = some v) (hx : E.get u = some x) : ∀ a, EnvOk a E n → (results fn a.tmps).run P w = .ok (.tuple #[v, x]) w := fun a ha => by
  rw [results_tmp2 h a.tmps P w, Array.getD_eq_getD_getElem?, Array.getD_eq_getD_getElem?, ha.get t v hv, ha.get u x hx]; rfl
theorem results3 {fn : Func} {t u s : Tmp} {v x y : Value} (h : fn.results = #[.tmp t, .tmp u, .tmp s]) (hv : E.get t = some v) (hx : E.get u = some x) (hy : E.get s = some y) : ∀ a, EnvOk a E n → (results fn a.tmps).run P w = .ok (.tuple #[v, x, y]) w := fun a ha => by
  have e1 : a.tmps[t]?.getD undef = v := by rw [ha.get t v hv]; rfl
  have e2 : a.tmps[u]?.getD undef = x := by rw [ha.get u x hx]; rfl
  have e3 : a.tmps[s]?.getD undef = y := by rw [ha.get s y hy]; rfl
  simp [results, h, e1, e2, e3]

/-! ### Operations -/
theorem xl_step {ops : Array Oper} {o : Oper} {L : List Oper} {d : Nat} {v : Value} (hg : o.guard = none) (hd : o.dst = some d) (hn : Nat.blt d n.m = true)
    (hr : ∀ a, EnvOk a E n → (execOp a.eval o).run P w = .ok (.value v) w) (h : XL P ops n Q ((d, v) :: E) L w) : XL P ops n Q E (o :: L) w := by
  refine ⟨fun q a ha => ?_⟩
  refine wpList_plain hg fun K hK => ?_
  unfold Oper.wp
  rw [hr a ha, Oper.upon_value, hd]
  exact hK _ _ (h.run q _ (ha.put hn))

/-- An operation that leaves another world. -/
theorem xl_step_w {ops : Array Oper} {o : Oper} {L : List Oper} {d : Nat} (hg : o.guard = none) (hd : o.dst = some d) (hn : Nat.blt d n.m = true)
    (hr : ∀ a, EnvOk a E n → ∃ v w', (execOp a.eval o).run P w = .ok (.value v) w' ∧ XL P ops n Q ((d, v) :: E) L w') : XL P ops n Q E (o :: L) w := by
  refine ⟨fun q a ha => ?_⟩
  refine wpList_plain hg fun K hK => ?_
  obtain ⟨v, w', h1, h2⟩ := hr a ha
  unfold Oper.wp
  rw [h1, Oper.upon_value, hd]
  exact hK _ _ (h2.run q _ (ha.put hn))

theorem xl_step_u {ops : Array Oper} {o : Oper} {L : List Oper} (hg : o.guard = none) (hd : o.dst = none)
    (hr : ∀ a, EnvOk a E n → ∃ w', (execOp a.eval o).run P w = .ok .skip w' ∧ XL P ops n Q E L w') : XL P ops n Q E (o :: L) w := by
  refine ⟨fun q a ha => ?_⟩
  refine wpList_plain hg fun K hK => ?_
  obtain ⟨w', h1, h2⟩ := hr a ha
  unfold Oper.wp
  rw [h1, Oper.upon_skip, hd]
  exact hK _ _ (h2.run q _ ha.put_none)

/-- A guarded operation whose guard is known to hold: as if it had none. -/
theorem xl_guard_yes {ops : Array Oper} {l : List Oper} {dst : Option Tmp} {op : Op} {ty : TypeId} {pos : String} {after : Array Edge} {j : Nat} {want : Bool} {L : List Oper} {t : Tmp} {oj : Oper}
    (hops : ops.toList = l) (hj : l[j]? = some oj) (ht : oj.dst = some t) (hv : E.get t = some (.bool want))
    (h : XL P ops n Q E (⟨dst, op, ty, pos, after, none⟩ :: L) w) : XL P ops n Q E (⟨dst, op, ty, pos, after, some (j, want)⟩ :: L) w := by
  refine ⟨fun q a ha => ?_⟩
  have hw : Region.wanted ⟨dst, op, ty, pos, after, some (j, want)⟩ (yielded ops a.tmps) = true := by
    have e : ops[j]? = some oj := by rw [← hj, ← hops]; simp
    simp [Region.wanted, yielded, e, ht, ha.get t _ hv]
  have h1 := h.run q a ha
  unfold wpList at h1 ⊢
  rw [if_pos hw]
  rw [if_pos (by simp [Region.wanted])] at h1
  exact h1
/-- Does the value of the guard say no? -/
def gno (v : Value) (want : Bool) : Bool := match v with
  | .bool got => got == !want
  | .tuple _ => true
  | _ => false
theorem unwanted {ops : Array Oper} {l : List Oper} {o : Oper} {j : Nat} {want : Bool} {v : Value} {t : Tmp} {oj : Oper} (hg : o.guard = some (j, want)) (hops : ops.toList = l) (hj : l[j]? = some oj) (ht : oj.dst = some t)
    (hv : E.get t = some v) (hne : gno v want = true) {a : Act} (ha : EnvOk a E n) : Region.wanted o (yielded ops a.tmps) = false := by
  have e : ops[j]? = some oj := by rw [← hj, ← hops]; simp
  simp only [Region.wanted, hg, yielded, e, Option.bind_some, ht, ha.get t _ hv]
  unfold gno at hne
  split at hne
  · rename_i got
    cases got <;> cases want <;> simp_all
  · simp
  · cases hne
theorem xl_guard_no {ops : Array Oper} {l : List Oper} {o : Oper} {j : Nat} {want : Bool} {v : Value} {L : List Oper} {t d : Tmp} {oj : Oper}
    (hg : o.guard = some (j, want)) (hd : o.dst = some d) (hn : Nat.blt d n.m = true) (hops : ops.toList = l) (hj : l[j]? = some oj) (ht : oj.dst = some t) (hv : E.get t = some v) (hne : gno v want = true)
    (h : XL P ops n Q ((d, undef) :: E) L w) : XL P ops n Q E (o :: L) w := by
  refine ⟨fun q a ha => ?_⟩
  refine wpList_skip (unwanted hg hops hj ht hv hne ha) ?_
  rw [hd]
  exact h.run q _ (ha.put hn)
theorem xl_guard_no_none {ops : Array Oper} {l : List Oper} {o : Oper} {j : Nat} {want : Bool} {v : Value} {L : List Oper} {t : Tmp} {oj : Oper}
    (hg : o.guard = some (j, want)) (hd : o.dst = none) (hops : ops.toList = l) (hj : l[j]? = some oj) (ht : oj.dst = some t) (hv : E.get t = some v) (hne : gno v want = true)
    (h : XL P ops n Q E L w) : XL P ops n Q E (o :: L) w := by
  refine ⟨fun q a ha => ?_⟩
  refine wpList_skip (unwanted hg hops hj ht hv hne ha) ?_
  rw [hd]
  exact h.run q _ ha.put_none
/-- A guard that is not decided: both ways. -/
theorem xl_guard_split {ops : Array Oper} {l : List Oper} {o : Oper} {j : Nat} {want : Bool} {L : List Oper} {t : Tmp} {oj : Oper} {b : Bool}
    (_hg : o.guard = some (j, want)) (_hops : ops.toList = l) (_hj : l[j]? = some oj) (_ht : oj.dst = some t) (hv : E.get t = some (.bool b))
    (h1 : b = true → XL P ops n Q ((t, .bool true) :: E) (o :: L) w) (h0 : b = false → XL P ops n Q ((t, .bool false) :: E) (o :: L) w) : XL P ops n Q E (o :: L) w := by
  refine ⟨fun q a ha => ?_⟩
  have key : ∀ c : Bool, b = c → EnvOk a ((t, .bool c) :: E) n := fun c hc => ⟨ha.defers, ha.size, fun t' v' h' => by
    simp only [Env.get] at h'
    cases hb : Nat.beq t t' with
    | true =>
      simp only [hb, cond_true, Option.some.injEq] at h'
      have := Nat.eq_of_beq_eq_true hb
      subst this; subst h'
      rw [← hc]; exact ha.get t _ hv
    | false =>
      simp only [hb, cond_false] at h'
      exact ha.get t' v' h'⟩
  cases b with
  | true => exact (h1 rfl).run q a (key true rfl)
  | false => exact (h0 rfl).run q a (key false rfl)
end
end Go.Sx

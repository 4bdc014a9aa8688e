/- Small rules for symbolic steps, the eleventh part: results that lie in memory; calls of function values. Program-independent. -/
import Derived.Test.YtgmegfmabkkaoaaSxA
namespace Go.Sx
open Go Chunk
set_option linter.unusedSimpArgs false
set_option linter.unusedVariables false

section
variable {P : Program} {T : Tab P} {n : Cx} {Q : Exit → Act → World → Prop} {E : Env} {w0 : World} {M : Nat → Prop} {H H' : List Chunk} {l L : List Oper}
  {d : Nat} {ty : TypeId} {pos : String} {after : Array Edge} {G : World → Prop} {C : List Chunk}

theorem loadVar_of {t : TypeId} {x : Operand} {v : Value} {w : World} {a : Act} (h : (execOp a.eval ⟨none, .load t x, ty, "", #[], none⟩).run P w = .ok (.value v) w) : ∃ ad, a.eval x = .pointer (some ad) ∧ (loadVar t ad).run P w = .ok v w := by
  simp only [execOp, Instr.loadAt, Sem.run_bind] at h
  cases hx : a.eval x with
  | pointer p =>
    cases p with
    | none => simp [hx, Instr.sureAddr] at h
    | some ad =>
      refine ⟨ad, rfl, ?_⟩
      rw [hx] at h
      simp only [Instr.sureAddr, Sem.run_pure, Result.andThen_ok] at h
      cases hr : (loadVar t ad).run P w with
      | ok u w' =>
        rw [hr] at h
        simp only [Result.andThen_ok, Result.ok.injEq, Next.value.injEq] at h
        rw [h.1, h.2]
      | halt u w' => rw [hr] at h; simp at h
  | _ => simp [hx, Instr.sureAddr] at h

/-- What the results are. -/
inductive ResOk (P : Program) (n : Cx) (C : List Chunk) (E : Env) : List ResultVar → List Value → Prop
  | nil : ResOk P n C E [] []
  | tmp {t : Tmp} {v : Value} {rs : List ResultVar} {vs : List Value} (hv : E.get t = some v) (h : ResOk P n C E rs vs) : ResOk P n C E (.tmp t :: rs) (v :: vs)
  | cell {t : Tmp} {ty : TypeId} {v : Value} {rs : List ResultVar} {vs : List Value} (hv : Lds P n C E (.load ty (.tmp t)) ty v) (h : ResOk P n C E rs vs) : ResOk P n C E (.cell t ty :: rs) (v :: vs)
/-- One result is itself, more are a tuple. -/
def packR : List Value → Value
  | [v] => v
  | vs => .tuple vs.toArray
def resF (tmps : Array Value) : ResultVar → Sem Value
  | .tmp t => pure (tmps.getD t undef)
  | .cell x t => do loadVar t (← asAddr (tmps.getD x undef))
theorem results_eq (fn : Func) (tmps : Array Value) : results fn tmps = (do let vs ← fn.results.mapM (resF tmps); pure (if h : vs.size = 1 then vs[0] else .tuple vs)) := rfl
theorem res_run {rs : List ResultVar} {vs : List Value} (h : ResOk P n C E rs vs) {a : Act} (ha : EnvOk a E n) {w : World} (hw : SC C w) :
    (rs.mapM (resF a.tmps)).run P w = .ok vs w := by
  induction h with
  | nil => simp
  | tmp hv h ih =>
    simp only [List.mapM_cons, resF, Sem.run_bind, Sem.run_pure, Result.andThen_ok, ih]
    rw [Array.getD_eq_getD_getElem?, ha.get _ _ hv]; rfl
  | cell hv h ih =>
    rename_i t ty v rs vs
    obtain ⟨ad, hx, hl⟩ := loadVar_of (hv.run none "" #[] none a ha w hw)
    have hx' : a.tmps.getD t undef = .pointer (some ad) := hx
    have hz : (asAddr (.pointer (some ad))).run P w = .ok ad w := rfl
    simp only [List.mapM_cons, resF, Sem.run_bind, hx', hz, Sem.run_pure, Result.andThen_ok, hl, ih]
theorem res_results {fn : Func} {rs : List ResultVar} {vs : List Value} (hf : fn.results = rs.toArray) (h : ResOk P n C E rs vs) {a : Act} (ha : EnvOk a E n) {w : World} (hw : SC C w) : (results fn a.tmps).run P w = .ok (packR vs) w := by
  have hr := res_run h ha hw
  rw [results_eq, Sem.run_bind, hf, Array.mapM_eq_mapM_toList, Sem.run_map, hr]
  simp only [Result.andThen_ok]
  match vs with
  | [] => rfl
  | [v] => rfl
  | v :: u :: vs => simp [packR]
/-- The end of a function. -/
theorem w_endr {α : Type} {A R : List Chunk} {val : α → Value} {out : α → List Chunk} {Φ : α → Prop} {fn : Func} {e : Exit} {rs : List ResultVar} {vs : List Value} (x : α) (is : List Nat) (hds : n.ds = []) (he : e = .ret ∨ e = .normal) (hf : fn.results = rs.toArray) (hr : ResOk P n H E rs vs) (hv : packR vs = val x) (hp : picks is H = some (out x, R)) (hx : Φ x) :
    Wd w0 (ownsW A) H (XQ n (bodyPost P fn (Ret w0 A val out Φ)) e E) := fun w hw =>
  xq_ret hds he (fun a ha => res_results hf hr ha hw.sc) ⟨x, by rw [hv], hw.sub is hp, hx⟩

/-- A call of what a temporary holds. -/
theorem eff_callv {α : Type} (is : List Nat) {f : FuncId} {vs : List Value} {first cap : Array Value} {fo : Operand} {A B R : List Chunk} {val : α → Value} {out : α → List Chunk} {Φ : α → Prop} {args : Array Operand} {ts : Array TypeId} {full : List Value} (hs : FnC P f full A B val out Φ)
    (hf : E.ev fo = some (.func (.func f) first cap)) (ha : E.evs args.toList = some vs) (hfull : first.toList ++ vs ++ cap.toList = full) (hp : picks is H = some (A, R)) (hl : LendsAll R B) (ho : ∀ x, allW (out x) = true) (hn : Nat.blt d n.m = true) :
    Eff P n w0 M H E (some d) (.call { callee := .value fo, args := args, argTypes := ts }) ty Φ (fun z => (d, val z) :: E) (fun z => out z ++ R) :=
  ⟨fun pos after ops Q L w hw h => by
    refine ⟨fun q act hact => ?_⟩
    refine wpList_plain rfl fun K hK => ?_
    obtain ⟨fn, c, hfn, hbody, hname⟩ := hs.called
    have hname' : ¬ fn.name = "runtime.NumGoroutine" := by simpa using hname
    have hargs : args.map act.eval = vs.toArray := by
      apply Array.ext'
      rw [Array.toList_map]
      simpa using hact.evals ha
    have hfull' : first ++ vs.toArray ++ cap = full.toArray := by
      apply Array.ext'
      simpa using hfull
    have hrun : (execOp act.eval ⟨some d, .call { callee := .value fo, args := args, argTypes := ts }, ty, pos, after, none⟩).run P w = .ok (.enter f full.toArray) w := by
      simp only [execOp, resolve, hact.eval hf, Deferred.ofValue, Sem.run_bind, Sem.run_pure, Result.andThen_ok, invoke, callFunc, program, Sem.run, hfn, hbody, hargs]
      simp [hname', hfull']
    unfold Oper.wp
    rw [hrun, Oper.upon_enter]
    refine (hw.calls hs hp hl ho).mono fun e w' hret => ?_
    obtain ⟨z, rfl, hst, hphi⟩ := hret
    exact hK _ _ ((h z w' hphi hst).run q _ (hact.put hn))⟩
end
end Go.Sx

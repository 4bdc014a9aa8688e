/- Small rules for symbolic steps, the fourteenth part: == of structs. Program-independent. -/
import Derived.Test.YtgmegfmabkkaoaaSxD
namespace Go.Sx
open Go Chunk
set_option linter.unusedSimpArgs false
set_option linter.unusedVariables false
section
variable {P : Program} {T : Tab P} {n : Cx} {Q : Exit → Act → World → Prop} {E : Env} {w0 : World} {M : Nat → Prop} {H H' : List Chunk} {l L : List Oper}
  {d : Nat} {ty : TypeId} {pos : String} {after : Array Edge} {G : World → Prop} {C : List Chunk}
/-- A part of a struct that is one cell. -/
def partV (T : Tab P) (cs : List Value) (t : TypeId) (off : Nat) : Option (TypeDesc × Value) := match T.get t with
  | some fi => (match nths cs off fi.size with
    | some vs => (match packV (isAggD fi.desc) vs with
      | some v => some (fi.desc, v)
      | none => none)
    | none => none)
  | none => none
theorem partV_run {t : TypeId} {cs : List Value} {off : Nat} {dv : TypeDesc × Value} {w : World} (h : partV T cs t off = some dv) : (part t cs.toArray off).run P w = .ok dv.2 w ∧ P.underlying t = some dv.1 := by
  unfold partV at h
  split at h
  · rename_i fi hfi
    split at h
    · rename_i vs hvs
      split at h
      · rename_i v hv
        cases h
        exact ⟨run_part hfi (by simpa using hvs) hv, T.und hfi⟩
      · cases h
    · cases h
  · cases h
def eqS1 : TypeDesc → Value → Value → Option Bool
  | .int _, .int k a, .int k' b => if k = k' then some (a == b) else none
  | .string, .string a, .string b => some (decide (a = b))
  | .bool, .bool a, .bool b => some (a == b)
  | _, _, _ => none
theorem bytes_beq (a b : ByteArray) : (a == b) = true ↔ a = b := by
  show (a.data == b.data) = true ↔ a = b
  rw [beq_iff_eq]
  exact ⟨fun h => ByteArray.ext h, fun h => by rw [h]⟩
theorem eqS1_run {t : TypeId} {dd : TypeDesc} {u v : Value} {r : Bool} {w : World} (m : Nat) (hu : P.underlying t = some dd) (h : eqS1 dd u v = some r) : (Op.equalIn (m + 1) t u v).run P w = .ok r w := by
  unfold eqS1 at h
  unfold Op.equalIn
  simp only [Sem.run_bind, run_underlying hu, Result.andThen_ok]
  split at h
  · split at h
    · rename_i hk
      subst hk
      cases h
      simp
    · cases h
  · cases h
    simp only [Sem.run_pure]
    congr 1
    rename_i a b
    rw [Bool.eq_iff_iff, decide_eq_true_eq]
    exact bytes_beq a b
  · cases h
    simp
  · cases h
/-- Field by field. -/
def eqFs (T : Tab P) (xs ys : List Value) : List Field → Option Bool
  | [] => some true
  | f :: fs => match partV T xs f.type f.offset, partV T ys f.type f.offset, eqFs T xs ys fs with
    | some u, some v, some r => (match eqS1 u.1 u.2 v.2 with
      | some b => some (b && r)
      | none => none)
    | _, _, _ => none
theorem eqFs_run {xs ys : List Value} {k m : Nat} {w : World} (hk : k = m + 1) : ∀ {fs : List Field} {r : Bool}, eqFs T xs ys fs = some r → (fs.all fun f => f.name != "_") = true →
    (do let s ← forIn (m := Sem) fs ((none, ()) : Option Bool × Unit) (fun f r => if f.name ≠ "_" then do
          if !(← Op.equalIn k f.type (← part f.type xs.toArray f.offset) (← part f.type ys.toArray f.offset)) then pure (ForInStep.done (some false, ())) else pure (ForInStep.yield (none, ()))
        else pure (ForInStep.yield (none, ()))); match s.1 with | some b => pure b | none => pure true : Sem Bool).run P w = .ok r w
  | [], r, h, _ => by
    simp only [eqFs, Option.some.injEq] at h
    subst h
    simp
  | f :: fs, r, h, hn => by
    simp only [eqFs] at h
    simp only [List.all_cons, Bool.and_eq_true, bne_iff_ne, ne_eq] at hn
    split at h
    · rename_i u v r' hu hv hr
      split at h
      · rename_i b hb
        cases h
        obtain ⟨h1, h2⟩ := partV_run (w := w) hu
        obtain ⟨h3, h4⟩ := partV_run (w := w) hv
        have he := eqS1_run (w := w) m h2 hb
        rw [← hk] at he
        have ih := eqFs_run (w := w) hk hr hn.2
        simp only [List.forIn_cons, ne_eq, hn.1, not_false_eq_true, if_true, Sem.run_bind, h1, h3, he, Result.andThen_ok]
        cases b with
        | true => simpa [Sem.run_bind] using ih
        | false => simp
      · cases h
    · cases h
theorem equal_struct {t : TypeId} {i : TyI} {fields : Array Field} {xs ys : List Value} {r : Bool} {w : World} (ht : T.get t = some i) (hd : i.desc = .struct fields) (hs : P.stoodInHeld t = false) (hnm : (fields.toList.all fun f => f.name != "_") = true) (he : eqFs T xs ys fields.toList = some r) :
    (Op.equal t (.agg xs.toArray) (.agg ys.toArray)).run P w = .ok r w := by
  have hu := T.und ht
  rw [hd] at hu
  have key := eqFs_run (w := w) (k := 9999) (m := 9998) rfl he hnm
  show (Op.equalIn (9999 + 1) t _ _).run P w = _
  unfold Op.equalIn
  simp only [Sem.run_bind, run_underlying hu, Result.andThen_ok, program, Sem.run, hs, Bool.false_eq_true, if_false]
  rw [← key]
  simp only [Sem.run_bind, ← Array.forIn_toList]
  congr 1
  funext a w'
  obtain ⟨x, u⟩ := a
  cases x <;> rfl
/-- No field of a struct is blank. -/
def namedT (T : Tab P) (t : TypeId) : Bool := match T.get t with
  | some i => (match i.desc with
    | .struct fields => fields.toList.all fun f => f.name != "_"
    | _ => false)
  | none => false
/-- The value of ==. -/
def eqSV (T : Tab P) (t : TypeId) (u v : Value) : Option Bool := match u, v, T.get t with
  | .agg xs, .agg ys, some i => (match i.desc with
    | .struct fields => eqFs T xs.toList ys.toList fields.toList
    | _ => none)
  | _, _, _ => none
theorem eqSV_run {t : TypeId} {x y : Operand} {u v : Value} {r : Bool} {w : World} (hs : P.stoodInHeld t = false) (hg : P.eqGuardType P.depth t = false) (hnm : namedT T t = true) (h : eqSV T t u v = some r) :
    (do eqGuard .eql t x y u v; binOp .eql t u v : Sem Value).run P w = .ok (.bool r) w ∧ (do eqGuard .neq t x y u v; binOp .neq t u v : Sem Value).run P w = .ok (.bool !r) w := by
  unfold eqSV at h
  split at h
  · rename_i xs ys i hi
    split at h
    · rename_i fields hd
      have he : (Op.equal t (.agg xs) (.agg ys)).run P w = .ok r w := by
        have hnm' : (fields.toList.all fun f => f.name != "_") = true := by
          unfold namedT at hnm
          rw [hi] at hnm
          simp only [hd] at hnm
          exact hnm
        have := equal_struct (w := w) hi hd hs hnm' h
        simpa using this
      constructor <;> simp [eqGuard, program, Sem.run, Sem.run_bind, hg, binOp, he]
    · cases h
  · cases h
theorem g_eqS (T : Tab P) {x y : Operand} {t yt : TypeId} {u v : Value} {r : Bool} (hx : E.ev x = some u) (hy : E.ev y = some v) (hr : eqSV T t u v = some r) (hs : P.stoodInHeld t = false) (hg : P.eqGuardType P.depth t = false) (hnm : namedT T t = true) : Gives P n E (.binOp .eql t x y yt) ty (.bool r) :=
  .mk <| fun _ _ _ _ act ha w => by
    have h1 := (eqSV_run (x := x) (y := y) (w := w) hs hg hnm hr).1
    simp only [execOp, ha.eval hx, ha.eval hy, Sem.run_bind] at h1 ⊢
    simp [h1]
theorem g_neqS (T : Tab P) {x y : Operand} {t yt : TypeId} {u v : Value} {r : Bool} (hx : E.ev x = some u) (hy : E.ev y = some v) (hr : eqSV T t u v = some r) (hs : P.stoodInHeld t = false) (hg : P.eqGuardType P.depth t = false) (hnm : namedT T t = true) : Gives P n E (.binOp .neq t x y yt) ty (.bool !r) :=
  .mk <| fun _ _ _ _ act ha w => by
    have h1 := (eqSV_run (x := x) (y := y) (w := w) hs hg hnm hr).2
    simp only [execOp, ha.eval hx, ha.eval hy, Sem.run_bind] at h1 ⊢
    simp [h1]
end
end Go.Sx

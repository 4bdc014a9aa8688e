/- Small rules for symbolic steps, the thirteenth part: library functions without a body. Program-independent. -/
import Derived.Test.YtgmegfmabkkaoaaSxC
import Derived.Lib.Bytealg
namespace Go.Sx
open Go Chunk
set_option linter.unusedSimpArgs false
set_option linter.unusedVariables false
section
variable {P : Program} {T : Tab P} {n : Cx} {Q : Exit → Act → World → Prop} {E : Env} {w0 : World} {M : Nat → Prop} {H H' : List Chunk} {l L : List Oper}
  {d : Nat} {ty : TypeId} {pos : String} {after : Array Edge} {G : World → Prop} {C : List Chunk}
/-- A call of a library function whose answer the model gives at once. -/
theorem g_call {f : FuncId} {args : Array Operand} {ts : Array TypeId} {vs : List Value} {v : Value} (ha : E.evs args.toList = some vs) (hr : ∀ w, (callFunc f vs.toArray).run P w = .ok (.value v) w) : Gives P n E (.call { callee := .value (.func f), args := args, argTypes := ts }) ty v :=
  .mk <| fun _ _ _ _ a hact w => by
    have hargs : args.map a.eval = vs.toArray := by
      apply Array.ext'
      rw [Array.toList_map]
      simpa using hact.evals ha
    have := hr w
    simp only [execOp, resolve, Act.eval, Deferred.ofValue, Sem.run_bind, Sem.run_pure, Result.andThen_ok, invoke, hargs] at this ⊢
    simpa using this
/-- A conversion of a number that fits. -/
theorem g_conv (T : Tab P) {x : Operand} {src dst : TypeId} {si di : TyI} {k k' : IntKind} {a : Int} (hx : E.ev x = some (.int k a)) (hs : T.get src = some si) (hd : T.get dst = some di) (hdd : di.desc = .int k') (hin : inK k' a) : Gives P n E (.convert src dst x) ty (.int k' a) :=
  .mk <| fun _ _ _ _ act ha w => by
    have hu1 := T.und hs
    have hu2 := T.und hd
    rw [hdd] at hu2
    simp [execOp, ha.eval hx, convert, run_underlying hu1, run_underlying hu2, Conv.intToInt, wrap_in hin]
end
end Go.Sx

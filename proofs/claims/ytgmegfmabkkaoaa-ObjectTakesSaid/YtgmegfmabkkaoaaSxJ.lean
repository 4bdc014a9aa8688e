/- Small rules for symbolic steps, the nineteenth part: rounds of a range over a function, out of the statement. Program-independent. -/
import Derived.Test.YtgmegfmabkkaoaaSxI
namespace Go.Sx
open Go Chunk
set_option linter.unusedSimpArgs false
set_option linter.unusedVariables false
/-- So many values in so many temporaries. -/
def envPut : List (Tmp × Value) → Env → Env
  | [], E => E
  | p :: l, E => envPut l ((p.1, p.2) :: E)
theorem envOk_params {n : Cx} : ∀ {l : List (Tmp × Value)} {t : Array Value} {d : List Deferred} {E : Env}, EnvOk { tmps := t, defers := d } E n → l.all (fun p => Nat.blt p.1 n.m) = true →
    EnvOk { tmps := l.foldl (fun tmps (p : Tmp × Value) => tmps.setIfInBounds p.1 p.2) t, defers := d } (envPut l E) n
  | [], t, d, E, h, _ => h
  | p :: l, t, d, E, h, hl => by
    simp only [List.all_cons, Bool.and_eq_true] at hl
    have := h.put (v := p.2) hl.1
    exact envOk_params (l := l) (t := t.setIfInBounds p.1 p.2) (d := d) (E := (p.1, p.2) :: E) this hl.2
/-- A round, out of the statement that it stands in. -/
theorem yd_go {P : Program} {α : Type} {ly m D : Nat} {fn : FuncId} {tmps : Array Value} {ps : List Tmp} {assign body : Code} {args : List Value} {A' : List Chunk} {val : α → Value} {out : α → List Chunk} {Φ : α → Prop} {E E0 : Env}
    (hE : EnvOk { tmps := tmps, defers := [] } E ⟨m, [], some ly⟩) (hs : EnvSub E E0) (ha : args.length = ps.length) (hm : (ps.zip args).all (fun p => Nat.blt p.1 m) = true)
    (h : ∀ w0, Wd w0 (ownsW (recC ly (recL fn tmps ps.toArray assign body D) :: A')) (recC ly (recL fn tmps ps.toArray assign body D) :: A')
      (XC P ⟨m, [], some ly⟩ (Exit.then (beginK P ly body (Ret w0 (recC ly (recL fn tmps ps.toArray assign body D) :: A') val out Φ)) (fun _ _ _ => False)) (envPut (ps.zip args) E0) assign)) : YdC P ly args (recC ly (recL fn tmps ps.toArray assign body D) :: A') val out Φ := by
  refine yd_intro rfl (by simpa [recL] using ha) ?_ h
  have h1 := envOk_params (l := ps.zip args) (hE.sub hs) hm
  simpa [recL, ← Array.foldl_toList] using h1
/-- A contract in another order of what it owns. -/
theorem FnC.perm {P : Program} {α : Type} {f : FuncId} {args : List Value} {A A' : List Chunk} {val : α → Value} {out out' : α → List Chunk} {Φ : α → Prop} (is : List Nat) (hs : FnC P f args A [] val out Φ) (hp : picks is A' = some (A, [])) (ho : ∀ x, allW (out x) = true) (h : ∀ x, ∃ js rest, picks js (out x) = some (out' x, rest)) : FnC P f args A' [] val out' Φ :=
  (hs.frame is hp trivial ho).map (fun x hx => ⟨x, rfl, by
    obtain ⟨js, rest, h⟩ := h x
    exact ⟨js, rest, by rw [List.append_nil]; exact h⟩, hx⟩)
end Go.Sx

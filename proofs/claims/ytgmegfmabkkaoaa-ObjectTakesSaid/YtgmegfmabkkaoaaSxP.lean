/- Small rules for symbolic steps, the twenty-fifth part: literals of no element. Program-independent. -/
import Derived.Test.YtgmegfmabkkaoaaSxN
namespace Go.Sx
open Go Chunk
set_option linter.unusedSimpArgs false
section
variable {P : Program} {T : Tab P} {n : Cx} {E : Env} {w0 : World} {M : Nat → Prop} {H : List Chunk} {d : Nat} {ty : TypeId}
theorem eff_buildSlice0 (T : Tab P) {t e : TypeId} {i : TyI} {ud : TypeDesc} {us ub : Nat} {uz : List Value} (ht : T.get t = some i) (hi : i.desc = .slice e) (he : T.get e = some ⟨ud, us, ub, uz⟩) (hn : Nat.blt d n.m = true) :
    Eff P n w0 M H E (some d) (.buildSlice t 0 #[]) ty (fun (_ : Nat) => True) (fun b => (d, .slice (some ⟨b, 0, none⟩) 0 0) :: E) (fun b => row (some ⟨b, 0, none⟩) 0 e us 0 [] :: H) :=
  ⟨fun _ _ _ _ _ w hw h => xl_step_w rfl rfl hn (fun act ha => by
    obtain ⟨ti, z, g1, g2, _, g4, g5⟩ := T.inf he
    have hu := T.und ht
    rw [hi] at hu
    have hw' := (hw.allocC (cs := []) (t := e)).row_of_blk (sz := us) (m := 0) (by simp) (Nat.zero_le _)
    refine ⟨_, _, ?_, h w.heap.size _ trivial hw'⟩
    simp [execOp, Instr.buildSlice, Instr.fill, run_underlying hu, sizeOf, typeInfo, program, Sem.run, g1, newRow]
    rw [show (Array.range 0).map (fun _ => (default : Value)) = #[] by apply Array.ext'; simp])⟩
/-! ### Two operations of which either may come first -/
/-- The order goes on with i. -/
structure XP (P : Program) (l : List Oper) (n : Cx) (Q : Exit → Act → World → Prop) (S : World → Prop) (ls : List Nat) (E : Env) (i : Nat) (fuel : Nat) (listed : Array Bool) (w : World) : Prop where
  run : QOk Q → ∀ a, EnvOk a E n → wpOp P l.toArray Q i (fun a' w' => Owed l.toArray ls S i w w' ∧ wpAnyS P l.toArray Q S ls fuel (listed.setIfInBounds i true) a' w') a w
section
variable {Q : Exit → Act → World → Prop} {S : World → Prop} {ls : List Nat} {fuel : Nat} {listed : Array Bool} {l L : List Oper} {w : World} {pos : String} {after : Array Edge} {Hk Hs H' : List Chunk} {ord : List Nat} {g : Option (Nat × Bool)} {i : Nat}
theorem xp_eff (i : Nat) {oi : Oper} (hi : nthO l i = some oi)
    (h : ∀ K : Act → World → Prop, (∀ E' w', Owed l.toArray ls S i w w' → XA P l n Q S ls E' fuel (listed.setIfInBounds i true) w' → ∀ a, EnvOk a E' n → K a w') → ∀ ops : Array Oper, ops.toList = l → XL P ops n (Exit.then K Q) E [oi] w) : XP P l n Q S ls E i fuel listed w := by
  refine ⟨fun q a ha => ?_⟩
  have hx := (h (fun a' w' => Owed l.toArray ls S i w w' ∧ wpAnyS P l.toArray Q S ls fuel (listed.setIfInBounds i true) a' w') (fun E' w' ho hxa a' ha' => ⟨ho, hxa.run q a' ha'⟩) l.toArray (by simp)).run q.then a ha
  unfold wpList at hx
  unfold wpOp
  rw [← nthO_eq, hi]
  simp only []
  split
  · rename_i hw
    rw [if_pos hw] at hx
    exact hx.imp (fun h => upon_then h) (fun h => h)
  · rename_i hw
    rw [if_neg hw] at hx
    exact hx
theorem xa_two {i j : Nat} (hr : (Region.ready .any l.toArray listed == [i, j]) = true) (h1 : XP P l n Q S ls E i fuel listed w) (h2 : XP P l n Q S ls E j fuel listed w) : XA P l n Q S ls E (fuel + 1) listed w := by
  refine ⟨fun q a ha => ?_⟩
  have hr' : Region.ready .any l.toArray listed = [i, j] := by simpa using hr
  refine ⟨fun h0 => (by rw [hr'] at h0; cases h0), fun k hk => ?_⟩
  rw [hr'] at hk
  simp only [List.mem_cons, List.not_mem_nil, or_false] at hk
  rcases hk with rfl | rfl
  · exact h1.run q a ha
  · exact h2.run q a ha
/-- Likewise, with the order of what is left. -/
structure XOP (P : Program) (l : List Oper) (n : Cx) (Q : Exit → Act → World → Prop) (S : World → Prop) (ls : List Nat) (E : Env) (ord : List Nat) (i : Nat) (fuel : Nat) (listed : Array Bool) (w : World) : Prop where
  run : XP P l n Q S ls E i fuel listed w
theorem wa_two {o : List Nat} {i j : Nat} (ordi ordj : List Nat) (hr : (Region.ready .any l.toArray listed == [i, j]) = true) (h1 : WS w0 M H Hk (XOP P l n Q S ls E ordi i fuel listed)) (h2 : WS w0 M H Hk (XOP P l n Q S ls E ordj j fuel listed)) :
    WS w0 M H Hk (XO P l n Q S ls E o (fuel + 1) listed) := fun w hw hs => ⟨xa_two hr (h1 w hw hs).run (h2 w hw hs).run⟩
theorem wp_eff {α : Type} {dst : Option Tmp} {op : Op} {φ : α → Prop} {E' : α → Env} {Hn : α → List Chunk} (hi : nthO l i = some ⟨dst, op, ty, pos, after, g⟩) (hg : guardYes l E g = true) (he : Eff P n w0 M H E dst op ty φ E' Hn) (hq' : quietI l.toArray i = false) (hk : ∀ z, Sub Hs (Hn z))
    (h : ∀ z, φ z → WS w0 M (Hn z) Hs (XO P l n Q (SC Hs) ls (E' z) ord fuel (listed.setIfInBounds i true))) : WS w0 M H Hk (XOP P l n Q (SC Hs) ls E ord i fuel listed) := fun w hw hs =>
  ⟨xp_eff i hi (fun K hK ops ho => xl_yes ho hg (he.run _ _ _ _ _ w hw (fun z w' hz hw' => xl_nil (xq_any hK (owed_some hq' (hk z w' hw'.sc)) ((h z hz w' hw' (hk z w' hw'.sc)).run)))))⟩
end
end
end Go.Sx

/- Small rules for symbolic steps, the seventeenth part: maps. Program-independent. -/
import Derived.Test.YtgmegfmabkkaoaaSxG
namespace Go.Sx
open Go Chunk
set_option linter.unusedSimpArgs false
set_option linter.unusedVariables false
set_option linter.unusedSectionVars false
/-- Keys that are compared at once. -/
structure KeyK (κ : Type) [DecidableEq κ] (kd : TypeDesc) (enc : κ → Value) : Prop where
  same : ∀ a b, Instr.sameNow kd (enc a) (enc b) = some (decide (a = b))
  bits : ∀ a, Instr.sameBits 10000 (enc a) (enc a) = true
  plain : (∀ ms, kd ≠ .interface ms) ∧ (∀ m e, kd ≠ .array m e) ∧ (∀ fs, kd ≠ .struct fs)
theorem keyS : KeyK ByteArray .string Value.string := ⟨fun a b => by
  simp only [Instr.sameNow, Option.some.injEq]
  rw [Bool.eq_iff_iff, decide_eq_true_eq]; exact bytes_beq a b, fun a => by
  show (a == a) = true
  exact (bytes_beq a a).2 rfl, by simp⟩
theorem keyI (k : IntKind) : KeyK Int (.int k) (Value.int k) := ⟨fun a b => by
  simp only [Instr.sameNow, if_true, Option.some.injEq]
  rw [Bool.eq_iff_iff, decide_eq_true_eq, beq_iff_eq], fun a => by simp [Instr.sameBits], by simp⟩
section
variable {κ : Type} [DecidableEq κ] {kd : TypeDesc} {enc : κ → Value}
/-- The entries of a map, in the order in which they came. -/
def entsF (enc : κ → Value) : Nat → List (κ × Value) → List MapEntry
  | _, [] => []
  | i, (k, v) :: l => { key := enc k, val := v, born := i } :: entsF enc (i + 1) l
/-- A map. -/
def mapC (enc : κ → Value) (b : Nat) (l : List (κ × Value)) : Chunk := obj b (.map (entsF enc 0 l).toArray l.length)
/-- What is at a key. -/
def atK : List (κ × Value) → κ → Option Value
  | [], _ => none
  | (k, v) :: l, x => if x = k then some v else atK l x
/-- With another value at a key. -/
def putK : List (κ × Value) → κ → Value → List (κ × Value)
  | [], x, u => [(x, u)]
  | (k, v) :: l, x, u => if x = k then (k, u) :: l else (k, v) :: putK l x u
theorem entsF_len (i : Nat) (l : List (κ × Value)) : (entsF enc i l).length = l.length := by
  induction l generalizing i with
  | nil => rfl
  | cons p l ih => obtain ⟨k, v⟩ := p; simp [entsF, ih]
def placeK : List (κ × Value) → κ → Nat → Option (Nat × Value)
  | [], _, _ => none
  | (k, v) :: l, x, i => if x = k then some (i, v) else placeK l x (i + 1)
theorem findNow_eq (K : KeyK κ kd enc) (x : κ) : ∀ (l : List (κ × Value)) (i j : Nat), Instr.findNow kd (enc x) (entsF enc j l) i = some (placeK l x i)
  | [], i, j => rfl
  | (k, v) :: l, i, j => by
    simp only [entsF, Instr.findNow, K.same, placeK]
    by_cases h : x = k
    · rw [if_pos h, decide_eq_true h]
    · rw [if_neg h, decide_eq_false h]; exact findNow_eq K x l (i + 1) (j + 1)
theorem placeK_at (x : κ) : ∀ (l : List (κ × Value)) (i : Nat), (placeK l x i).map (·.2) = atK l x
  | [], i => rfl
  | (k, v) :: l, i => by
    simp only [placeK, atK]
    split
    · rfl
    · exact placeK_at x l (i + 1)
theorem placeK_none {x : κ} {l : List (κ × Value)} {i : Nat} (h : placeK l x i = none) : ∀ u j, entsF enc j (putK l x u) = entsF enc j l ++ [{ key := enc x, val := u, born := j + l.length }] := by
  induction l generalizing i with
  | nil => intro u j; rfl
  | cons p l ih =>
    obtain ⟨k, v⟩ := p
    intro u j
    simp only [placeK] at h
    split at h
    · cases h
    · rename_i hk
      simp only [putK, if_neg hk, entsF, ih h u (j + 1), List.cons_append, List.length_cons]
      rw [show j + 1 + l.length = j + (l.length + 1) by omega]
theorem placeK_none_len {x : κ} {l : List (κ × Value)} {i : Nat} (h : placeK l x i = none) (u : Value) : (putK l x u).length = l.length + 1 := by
  have := congrArg List.length (placeK_none (enc := fun _ : κ => Value.bool true) h u 0)
  simpa [entsF_len] using this
theorem placeK_some {x : κ} {l : List (κ × Value)} {i m : Nat} {v : Value} (h : placeK l x i = some (m, v)) : i ≤ m ∧ m - i < l.length ∧ (∀ j, ((entsF enc j l)[m - i]?).map (·.key) = some (enc x)) ∧ ∀ u j, entsF enc j (putK l x u) = (entsF enc j l).modify (m - i) (fun e => { e with key := enc x, val := u }) := by
  induction l generalizing i with
  | nil => simp [placeK] at h
  | cons p l ih =>
    obtain ⟨k, w⟩ := p
    simp only [placeK] at h
    split at h
    · rename_i hk
      cases h
      subst hk
      refine ⟨Nat.le_refl _, by simp, fun j => by simp [entsF], fun u j => ?_⟩
      simp [putK, entsF]
    · rename_i hk
      obtain ⟨h1, h2, h3, h4⟩ := ih h
      refine ⟨by omega, by simp; omega, fun j => ?_, fun u j => ?_⟩
      · have := h3 (j + 1)
        rw [show m - i = (m - (i + 1)) + 1 by omega]
        simpa [entsF] using this
      · rw [show m - i = (m - (i + 1)) + 1 by omega]
        simp only [putK, if_neg hk, entsF, h4 u (j + 1), List.modify_succ_cons]
theorem putK_len_some {x : κ} {l : List (κ × Value)} {i m : Nat} {v : Value} (h : placeK l x i = some (m, v)) (u : Value) : (putK l x u).length = l.length := by
  have := congrArg List.length ((placeK_some (enc := fun _ : κ => Value.bool true) h).2.2.2 u 0)
  simpa [entsF_len] using this
/-- The value of nothing. -/
def zeroV : TypeDesc → Option Value
  | .int k => some (.int k 0)
  | .bool => some (.bool false)
  | .string => some (.string .empty)
  | .slice _ => some (.slice none 0 0)
  | _ => none
section
variable {P : Program} {T : Tab P} {n : Cx} {Q : Exit → Act → World → Prop} {E : Env} {w0 : World} {M : Nat → Prop} {H H' : List Chunk} {l L : List Oper}
  {d : Nat} {ty : TypeId} {pos : String} {after : Array Edge} {G : World → Prop} {C : List Chunk}
theorem checkKey_run (K : KeyK κ kd enc) {kt : TypeId} (hk : P.underlying kt = some kd) (em : Bool) (v : Value) (m : Nat) (w : World) : (Instr.checkKey em (m + 1) kt v).run P w = .ok () w := by
  obtain ⟨p1, p2, p3⟩ := K.plain
  unfold Instr.checkKey
  rw [Sem.run_bind, run_underlying hk]
  simp only [Result.andThen_ok]
  cases kd with
  | interface ms => exact absurd rfl (p1 ms)
  | array m e => exact absurd rfl (p2 m e)
  | struct fs => exact absurd rfl (p3 fs)
  | _ => cases v <;> rfl
theorem findKey_run (K : KeyK κ kd enc) {kt : TypeId} (hk : P.underlying kt = some kd) (x : κ) (ms : List (κ × Value)) (w : World) : (Instr.findKey kt (enc x) (entsF enc 0 ms)).run P w = .ok (placeK ms x 0) w := by
  unfold Instr.findKey
  rw [Sem.run_bind, run_underlying hk]
  simp only [Result.andThen_ok, findNow_eq K]
  rfl
theorem getObj_run {b : Nat} {es : Array MapEntry} {ck : Nat} {w : World} (h : w.heap[b]? = some (.map es ck)) : (getObj b).run P w = .ok (.map es ck) w := by simp [getObj, Sem.run, h]
/-- What a lookup gives. -/
def lookV (ok : Bool) (z : Value) (r : Option Value) : Value := if ok then .tuple #[r.getD z, .bool r.isSome] else r.getD z
theorem ld_map (T : Tab P) (K : KeyK κ kd enc) {i : Nat} {m x : Operand} {t kt e : TypeId} {ti ki ei : TyI} {b : Nat} {ms : List (κ × Value)} {key : κ} {z : Value} {ok : Bool} (hm : E.ev m = some (.map (some b))) (hx : E.ev x = some (enc key)) (hp : nthC C i = some (mapC enc b ms))
    (ht : T.get t = some ti) (hti : ti.desc = .map kt e) (hk : T.get kt = some ki) (hkd : ki.desc = kd) (he : T.get e = some ei) (hz : zeroV ei.desc = some z) (hz2 : (P.info? e).map (·.zero) = some (some z)) : Lds P n C E (.lookup t m x ok) ty (lookV ok z (atK ms key)) :=
  .mk <| fun _ _ _ _ a ha w hw => by
    have hb : w.heap[b]? = some (.map (entsF enc 0 ms).toArray ms.length) := hw.nth hp
    have hu := T.und ht
    rw [hti] at hu
    have hku := T.und hk
    rw [hkd] at hku
    have hzr : (zeroValue e).run P w = .ok z w := by
      cases hi : P.info? e with
      | none => rw [hi] at hz2; cases hz2
      | some ti' =>
        rw [hi] at hz2
        simp only [Option.map_some, Option.some.injEq] at hz2
        simp [zeroValue, typeInfo, program, Sem.run, hi, hz2]
    have hat := placeK_at key ms 0
    simp only [execOp, ha.eval hm, ha.eval hx, Instr.lookup, Sem.run_bind, run_underlying hu, Result.andThen_ok, getObj_run hb, Sem.run_pure, checkKey_run K hku, findKey_run K hku]
    cases hf : placeK ms key 0 with
    | none =>
      rw [hf] at hat
      simp only [Option.map_none] at hat
      rw [← hat]
      simp only [Sem.run_bind, hzr, Result.andThen_ok, Sem.run_pure]
      cases ok <;> rfl
    | some r =>
      rw [hf] at hat
      simp only [Option.map_some] at hat
      rw [← hat]
      simp only [Sem.run_pure, Result.andThen_ok]
      cases ok <;> rfl
/-- A map that is nil. -/
theorem g_mapnil (T : Tab P) (K : KeyK κ kd enc) {m x : Operand} {t kt e : TypeId} {ti ki ei : TyI} {key : κ} {z : Value} {ok : Bool} (hm : E.ev m = some (.map none)) (hx : E.ev x = some (enc key))
    (ht : T.get t = some ti) (hti : ti.desc = .map kt e) (hk : T.get kt = some ki) (hkd : ki.desc = kd) (he : T.get e = some ei) (hz : zeroV ei.desc = some z) (hz2 : (P.info? e).map (·.zero) = some (some z)) : Gives P n E (.lookup t m x ok) ty (lookV ok z none) :=
  .mk <| fun _ _ _ _ a ha w => by
    have hu := T.und ht
    rw [hti] at hu
    have hku := T.und hk
    rw [hkd] at hku
    have hzr : (zeroValue e).run P w = .ok z w := by
      cases hi : P.info? e with
      | none => rw [hi] at hz2; cases hz2
      | some ti' =>
        rw [hi] at hz2
        simp only [Option.map_some, Option.some.injEq] at hz2
        simp [zeroValue, typeInfo, program, Sem.run, hi, hz2]
    have hf := findKey_run (w := w) K hku key []
    simp only [entsF, placeK] at hf
    simp only [execOp, ha.eval hm, ha.eval hx, Instr.lookup, Sem.run_bind, run_underlying hu, Result.andThen_ok, Sem.run_pure, checkKey_run K hku, hf, hzr]
    cases ok <;> rfl
theorem eff_makeMap {t : TypeId} (hn : Nat.blt d n.m = true) : Eff P n w0 M H E (some d) (.makeMap t none) ty (fun (_ : Nat) => True) (fun b => (d, .map (some b)) :: E) (fun b => obj b (.map #[] 0) :: H) :=
  ⟨fun _ _ _ _ _ w hw h => xl_step_w rfl rfl hn (fun act ha => ⟨_, _, by simp [execOp, Instr.makeMap, run_newObj_alloc], h _ _ trivial hw.alloc⟩)⟩
theorem eff_mapUpdate (T : Tab P) (K : KeyK κ kd enc) {i : Nat} {m x v : Operand} {t kt e : TypeId} {ti ki : TyI} {b : Nat} {ms : List (κ × Value)} {key : κ} {u : Value} (hm : E.ev m = some (.map (some b))) (hx : E.ev x = some (enc key)) (hv : E.ev v = some u) (hp : Sx.pick H i = some (mapC enc b ms, H'))
    (ht : T.get t = some ti) (hti : ti.desc = .map kt e) (hk : T.get kt = some ki) (hkd : ki.desc = kd) : Eff (α := Unit) P n w0 M H E none (.mapUpdate t m x v) ty (fun _ => True) (fun _ => E) (fun _ => mapC enc b (putK ms key u) :: H') :=
  ⟨fun _ _ _ _ _ w hw h => xl_step_u rfl rfl (fun act ha => by
    have hw' := hw.pick i hp
    have hb : w.heap[b]? = some (.map (entsF enc 0 ms).toArray ms.length) := hw'.head
    have hlt : b < w.heap.size := (Array.getElem?_eq_some_iff.1 hb).1
    have hu := T.und ht
    rw [hti] at hu
    have hku := T.und hk
    rw [hkd] at hku
    have hset : ∀ o : Obj, (setObj b o).run P w = .ok () (w.putObj b o) := fun o => by simp [setObj, Sem.run, hb, World.putObj]
    have hturn : ∀ o : Obj, Turns (fun k => k = b) w (w.putObj b o) := fun o => ⟨rfl, rfl, rfl, by simp, fun k _ hk => World.putObj_heap_other hk⟩
    cases hf : placeK ms key 0 with
    | none =>
      refine ⟨w.putObj b (.map ((entsF enc 0 ms).toArray.push { key := enc key, val := u, born := ms.length }) (ms.length + 1)), ?_, h () _ trivial (hw'.turn rfl (hturn _) ?_ (fun k hk => .inl hk))⟩
      · simp only [execOp, ha.eval hm, ha.eval hx, ha.eval hv, Instr.mapUpdate, Sem.run_bind, run_underlying hu, Result.andThen_ok, getObj_run hb, Sem.run_pure, checkKey_run K hku, findKey_run K hku, hf, hset]
      · show (w.putObj b _).heap[b]? = some _
        rw [World.putObj_heap_same hlt, placeK_none hf u 0, placeK_none_len hf u]
        simp
    | some r =>
      obtain ⟨j, v0⟩ := r
      obtain ⟨h1, h2, h3, h4⟩ := placeK_some (enc := enc) hf
      simp only [Nat.sub_zero] at h2 h3 h4
      have h3' := h3 0
      refine ⟨w.putObj b (.map ((entsF enc 0 ms).toArray.modify j (fun e => { e with key := enc key, val := u })) ms.length), ?_, h () _ trivial (hw'.turn rfl (hturn _) ?_ (fun k hk => .inl hk))⟩
      · simp only [execOp, ha.eval hm, ha.eval hx, ha.eval hv, Instr.mapUpdate, Sem.run_bind, run_underlying hu, Result.andThen_ok, getObj_run hb, Sem.run_pure, checkKey_run K hku, findKey_run K hku, hf, List.getElem?_toArray, h3', Option.getD_some, Instr.keyThatStays, K.bits, if_true, hset]
      · show (w.putObj b _).heap[b]? = some _
        rw [World.putObj_heap_same hlt, h4 u 0, putK_len_some hf u]
        simp)⟩
end
end
end Go.Sx

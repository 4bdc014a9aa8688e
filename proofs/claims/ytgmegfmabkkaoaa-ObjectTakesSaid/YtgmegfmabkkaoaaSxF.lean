/- Small rules for symbolic steps, the fifteenth part: stores into rows; max and min. Program-independent. -/
import Derived.Test.YtgmegfmabkkaoaaSxE
namespace Go.Sx
open Go Chunk
set_option linter.unusedSimpArgs false
set_option linter.unusedVariables false
section
variable {P : Program} {T : Tab P} {n : Cx} {Q : Exit → Act → World → Prop} {E : Env} {w0 : World} {M : Nat → Prop} {H H' : List Chunk} {l L : List Oper}
  {d : Nat} {ty : TypeId} {pos : String} {after : Array Edge} {G : World → Prop} {C : List Chunk}
theorem take_seg {α : Type} (cur vs : List α) (o m : Nat) (h : o + vs.length ≤ m) (hm : m ≤ cur.length) : (cur.take o ++ vs ++ cur.drop (o + vs.length)).take m = (cur.take m).take o ++ vs ++ (cur.take m).drop (o + vs.length) := by
  rw [List.take_append, List.length_append, List.length_take, Nat.min_eq_left (by omega), List.take_of_length_le (l := cur.take o ++ vs) (by simp; omega), List.take_take, Nat.min_eq_left (by omega), List.drop_take]
/-- Cells of a row are stored. -/
theorem eff_store_rs {i : Nat} (T : Tab P) {x y : Operand} {t e : TypeId} {ti : TyI} {g o cap sz m : Nat} {xs vs : List Value} {v : Value} (hx : E.ev x = some (.pointer (some ⟨g, o, none⟩))) (hp : Sx.pick H i = some (row (some ⟨g, 0, none⟩) cap e sz m xs, H')) (hy : E.ev y = some v) (hv : cellsO v = some vs) (h1 : oneC vs = true)
    (ht : T.get t = some ti) (hz : Nat.beq vs.length ti.size = true) (ho : o + vs.length ≤ xs.length) : Eff (α := Unit) P n w0 M H E none (.store t x y) ty (fun _ => True) (fun _ => E) (fun _ => row (some ⟨g, 0, none⟩) cap e sz m (xs.take o ++ vs ++ xs.drop (o + vs.length)) :: H') :=
  ⟨fun _ _ _ _ _ w hw h => xl_step_u rfl rfl (fun act ha => by
    obtain ⟨tinf, z, g1, g2, _, _, _⟩ := T.inf ht
    have hw' := hw.pick i hp
    have hown : w.ownsRow 0 e sz (.slice (some ⟨g, 0, none⟩) m cap) m xs := hw'.head
    have hz' : vs.length = tinf.size := by rw [g2]; exact Nat.eq_of_beq_eq_true hz
    obtain ⟨hl, hown2⟩ := hown
    rcases hown2 with ⟨hv0, _⟩ | ⟨g', cap', cur, hv0, _, hb, hmc, hcm, hcs, htk⟩
    · cases hv0
    · simp only [Value.slice.injEq, Option.some.injEq, Addr.mk.injEq, true_and, and_true] at hv0
      obtain ⟨rfl, rfl⟩ := hv0
      have hmz : m * sz ≤ cap * sz := Nat.mul_le_mul_right _ hmc
      have hlen : xs.length ≤ cur.size := by rw [hl, hcs]; exact hmz
      have hst := run_storeCells_at P g o e vs 0 cur w hb (by omega) (oneC_eq h1)
      have hc := cellsO_eq hv
      simp only [Nat.add_zero] at hst
      refine ⟨w.setRow g (cur.toList.take o ++ vs ++ cur.toList.drop (o + vs.length)).toArray, ?_, h () _ trivial (hw'.turn rfl ((Turns.setRow w g _).mono (fun k hk => ?_)) ?_ (fun k hk => .inl hk))⟩
      · simp only [execOp, ha.eval hx, ha.eval hy, Instr.storeAt, Instr.sureAddr, Sem.run_bind, Sem.run_pure, Result.andThen_ok, storeVar, sizeOf, typeInfo, program, Sem.run, g1, hc]
        rw [if_neg (by simp [hz'])]
        rw [hst]
        simp only [Result.andThen_ok]
      · show (Value.slice (some ⟨g, 0, none⟩) m cap).ownBlock = some k
        subst hk; rfl
      · have hh := setRow_heap w g cur (cur.toList.take o ++ vs ++ cur.toList.drop (o + vs.length)).toArray e _ hb
        have hcl : cur.toList.length = cur.size := by simp
        refine ⟨by rw [List.length_append, List.length_append, List.length_take, List.length_drop, Nat.min_eq_left (by omega)]; omega, .inr ⟨g, cap, _, rfl, Nat.zero_le _, hh, hmc, hcm, ?_, ?_⟩⟩
        · simp only [List.size_toArray, List.length_append, List.length_take, List.length_drop, hcl]
          rw [Nat.min_eq_left (by omega), ← hcs]; omega
        · rw [List.toList_toArray, take_seg _ _ _ _ (by rw [← hl]; exact ho) (by rw [hcl, hcs]; exact hmz), htk])⟩
/-- One cell of a row is stored. -/
theorem eff_store_r {i : Nat} (T : Tab P) {x y : Operand} {t e : TypeId} {ti : TyI} {g o cap sz m : Nat} {xs : List Value} {v : Value} (hx : E.ev x = some (.pointer (some ⟨g, o, none⟩))) (hp : Sx.pick H i = some (row (some ⟨g, 0, none⟩) cap e sz m xs, H')) (hy : E.ev y = some v) (hv : cellsO v = some [v]) (h1 : oneC [v] = true)
    (ht : T.get t = some ti) (hz : Nat.beq 1 ti.size = true) (ho : o < xs.length) : Eff (α := Unit) P n w0 M H E none (.store t x y) ty (fun _ => True) (fun _ => E) (fun _ => row (some ⟨g, 0, none⟩) cap e sz m (xs.set o v) :: H') := by
  have := eff_store_rs (n := n) (w0 := w0) (M := M) (ty := ty) (vs := [v]) T hx hp hy hv h1 ht hz (by simp; omega)
  rw [show xs.take o ++ [v] ++ xs.drop (o + [v].length) = xs.set o v by rw [List.set_eq_take_append_cons_drop, if_pos ho]; simp] at this
  exact this
theorem size_mk (l : List UInt8) : (ByteArray.mk l.toArray).size = l.length := by simp [ByteArray.size]
/-- The greater one, and the less one, of two. -/
theorem g_max {x y : Operand} {ts : Array TypeId} {k : IntKind} {a b : Int} (hx : E.ev x = some (.int k a)) (hy : E.ev y = some (.int k b)) : Gives P n E (.call { callee := .builtin .max, args := #[x, y], argTypes := ts }) ty (.int k (max a b)) :=
  .mk <| fun _ _ _ _ act ha w => by
    simp [execOp, resolve, invoke, builtin, ha.eval hx, ha.eval hy, Builtin.max_, Builtin.max2, show (if b > a then b else a) = max a b by omega]
theorem g_min {x y : Operand} {ts : Array TypeId} {k : IntKind} {a b : Int} (hx : E.ev x = some (.int k a)) (hy : E.ev y = some (.int k b)) : Gives P n E (.call { callee := .builtin .min, args := #[x, y], argTypes := ts }) ty (.int k (min a b)) :=
  .mk <| fun _ _ _ _ act ha w => by
    simp [execOp, resolve, invoke, builtin, ha.eval hx, ha.eval hy, Builtin.min_, Builtin.min2, show (if b < a then b else a) = min a b by omega]
/-- In a region that draws: a temporary's value in other words. -/
theorem wa_as {Hk : List Chunk} {S : World → Prop} {ls ord : List Nat} {fuel i : Nat} {listed : Array Bool} {dst : Option Tmp} {op : Op} {g : Nat × Bool} {t : Tmp} {b : Bool} (c : Bool) (hi : nthO l i = some ⟨dst, op, ty, pos, after, some g⟩) (hg : guardT l g = some t) (hv : E.get t = some (.bool b)) (hb : b = c)
    (h : WS w0 M H Hk (XO P l n Q S ls ((t, .bool c) :: E) (i :: ord) fuel listed)) : WS w0 M H Hk (XO P l n Q S ls E (i :: ord) fuel listed) := fun w hw hs =>
  ⟨⟨fun q a ha => (h w hw hs).run.run q a (envOk_as ha hv hb)⟩⟩
/-- Division of what is not negative. -/
theorem g_divN {op : BinOp} {x y : Operand} {t u : TypeId} {k : IntKind} {a b : Int} (hx : E.ev x = some (.int k a)) (hy : E.ev y = some (.int k b)) (hop : op = .quo) (hb : (decide (0 < b)) = true) (h0 : 0 ≤ a) (hin : inK k (a / b)) : Gives P n E (.binOp op t x y u) ty (.int k (a / b)) := by
  have hb' : 0 < b := by simpa using hb
  have := g_div (P := P) (n := n) (ty := ty) (t := t) (u := u) hx hy hop (by omega)
  rw [Int.tdiv_eq_ediv_of_nonneg h0, wrap_in hin] at this
  exact this
theorem g_modN {op : BinOp} {x y : Operand} {t u : TypeId} {k : IntKind} {a b : Int} (hx : E.ev x = some (.int k a)) (hy : E.ev y = some (.int k b)) (hop : op = .rem) (hb : (decide (0 < b)) = true) (h0 : 0 ≤ a) : Gives P n E (.binOp op t x y u) ty (.int k (a % b)) := by
  have hb' : 0 < b := by simpa using hb
  have := g_mod (P := P) (n := n) (ty := ty) (t := t) (u := u) hx hy hop (by omega)
  rw [Int.tmod_eq_emod_of_nonneg h0] at this
  exact this
/-- Pieces of a string. -/
theorem g_strAB (T : Tab P) {x y z : Operand} {t : TypeId} {i : TyI} {s : ByteArray} {k k' : IntKind} {a b : Int} (hx : E.ev x = some (.string s)) (hy : E.ev y = some (.int k a)) (hz : E.ev z = some (.int k' b)) (ht : T.get t = some i) (hi' : i.desc = .string)
    (h0 : 0 ≤ a) (h1 : a ≤ b) (h2 : b ≤ s.size) : Gives P n E (.slice t x (some y) (some z) none) ty (.string (s.extract a.toNat b.toNat)) :=
  g_sliceS T (l := some a) (r := some b) hx (by simp [optI, hy]) (by simp [optI, hz]) ht hi' h0 h1 h2
theorem g_strA (T : Tab P) {x y : Operand} {t : TypeId} {i : TyI} {s : ByteArray} {k : IntKind} {a : Int} (hx : E.ev x = some (.string s)) (hy : E.ev y = some (.int k a)) (ht : T.get t = some i) (hi' : i.desc = .string)
    (h0 : 0 ≤ a) (h1 : a ≤ s.size) : Gives P n E (.slice t x (some y) none none) ty (.string (s.extract a.toNat s.size)) :=
  g_sliceS T (l := some a) (r := none) hx (by simp [optI, hy]) rfl ht hi' h0 h1 (Int.le_refl _)
theorem g_strB (T : Tab P) {x z : Operand} {t : TypeId} {i : TyI} {s : ByteArray} {k' : IntKind} {b : Int} (hx : E.ev x = some (.string s)) (hz : E.ev z = some (.int k' b)) (ht : T.get t = some i) (hi' : i.desc = .string)
    (h1 : 0 ≤ b) (h2 : b ≤ s.size) : Gives P n E (.slice t x none (some z) none) ty (.string (s.extract 0 b.toNat)) :=
  g_sliceS T (l := none) (r := some b) hx rfl (by simp [optI, hz]) ht hi' (Int.le_refl _) h1 h2
end
end Go.Sx

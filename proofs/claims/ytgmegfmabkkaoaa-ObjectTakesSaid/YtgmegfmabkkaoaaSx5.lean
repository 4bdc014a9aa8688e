/- Small rules for symbolic steps, the fifth part: one rule for each operation. Program-independent. -/
import Derived.Test.YtgmegfmabkkaoaaSx4
namespace Go.Sx
open Go
set_option linter.unusedSimpArgs false

section
variable {P : Program} {T : Tab P} {n : Cx} {Q : Exit → Act → World → Prop} {E : Env} {w w0 : World} {M : Nat → Prop} {H H' : List Chunk} {ops : Array Oper} {L : List Oper}
  {d : Nat} {ty : TypeId} {pos : String} {after : Array Edge}

/-- An operation gives a value in every world, and does nothing else. -/
structure Gives (P : Program) (n : Cx) (E : Env) (op : Op) (ty : TypeId) (v : Value) : Prop where
  run : ∀ (dst : Option Tmp) (pos : String) (after : Array Edge) (g : Option (Nat × Bool)) (a : Act), EnvOk a E n → ∀ w, (execOp a.eval ⟨dst, op, ty, pos, after, g⟩).run P w = .ok (.value v) w
theorem xl_g {op : Op} {v : Value} (hv : Gives P n E op ty v) (hn : Nat.blt d n.m = true) (h : XL P ops n Q ((d, v) :: E) L w) : XL P ops n Q E (⟨some d, op, ty, pos, after, none⟩ :: L) w :=
  xl_step rfl rfl hn (fun a ha => hv.run _ _ _ _ a ha w) h
theorem g_pure (T : Tab P) {op : Op} {v : Value} (hv : evalP T E op = some v) : Gives P n E op ty v := .mk <| fun _ _ _ _ _ ha _ => evalP_run (T := T) hv ha
/-- A pure operation. -/
theorem xl_pure (T : Tab P) {op : Op} {v : Value} (hv : evalP T E op = some v) (hn : Nat.blt d n.m = true) (h : XL P ops n Q ((d, v) :: E) L w) : XL P ops n Q E (⟨some d, op, ty, pos, after, none⟩ :: L) w :=
  xl_g (g_pure T hv) hn h

/-! ### Arithmetic -/
def inK (k : IntKind) (m : Int) : Prop := k.min ≤ m ∧ m ≤ k.max
theorem wrap_in {k : IntKind} {m : Int} (h : inK k m) : k.wrap m = m := by
  unfold inK at h
  cases k <;> simp [IntKind.min, IntKind.max, IntKind.wrap, IntKind.signed, IntKind.bits] at h ⊢ <;> (try split) <;> omega
theorem inK_i64 {m : Int} (h0 : -9223372036854775808 ≤ m) (h1 : m ≤ 9223372036854775807) : inK .i64 m := by
  simp [inK, IntKind.min, IntKind.max, IntKind.signed, IntKind.bits]; omega
theorem inK_i32 {m : Int} (h0 : -2147483648 ≤ m) (h1 : m ≤ 2147483647) : inK .i32 m := by
  simp [inK, IntKind.min, IntKind.max, IntKind.signed, IntKind.bits]; omega
theorem inK_u8 {m : Int} (h0 : 0 ≤ m) (h1 : m ≤ 255) : inK .u8 m := by
  simp [inK, IntKind.min, IntKind.max, IntKind.signed, IntKind.bits]; omega
theorem inK_u64 {m : Int} (h0 : 0 ≤ m) (h1 : m ≤ 18446744073709551615) : inK .u64 m := by
  simp [inK, IntKind.min, IntKind.max, IntKind.signed, IntKind.bits]; omega
def arith (op : BinOp) (a b : Int) : Option Int :=
  match op with
  | .add => some (a + b)
  | .sub => some (a - b)
  | .mul => some (a * b)
  | _ => none
theorem run_arith {op : BinOp} {t : TypeId} {x y : Operand} {k : IntKind} {a b r : Int} (h : arith op a b = some r) : (do eqGuard op t x y (.int k a) (.int k b); binOp op t (.int k a) (.int k b) : Sem Value).run P w = .ok (.int k (k.wrap r)) w := by
  cases op <;> simp only [arith, reduceCtorEq, Option.some.injEq] at h <;> subst h <;> simp [eqGuard, binOp, Op.intArith]
theorem g_wrap {op : BinOp} {x y : Operand} {t u : TypeId} {k : IntKind} {a b r : Int} (hx : E.ev x = some (.int k a)) (hy : E.ev y = some (.int k b)) (hr : arith op a b = some r) : Gives P n E (.binOp op t x y u) ty (.int k (k.wrap r)) :=
  .mk <| fun _ _ _ _ act ha w => by
    have := run_arith (P := P) (w := w) (t := t) (x := x) (y := y) (k := k) hr
    simp only [execOp, ha.eval hx, ha.eval hy]
    rw [Sem.run_bind, this]; rfl
theorem g_arith {op : BinOp} {x y : Operand} {t u : TypeId} {k : IntKind} {a b r : Int} (hx : E.ev x = some (.int k a)) (hy : E.ev y = some (.int k b)) (hr : arith op a b = some r) (hin : inK k r) : Gives P n E (.binOp op t x y u) ty (.int k r) :=
  by rw [← wrap_in hin]; exact g_wrap hx hy hr
theorem g_div {op : BinOp} {x y : Operand} {t u : TypeId} {k : IntKind} {a b : Int} (hx : E.ev x = some (.int k a)) (hy : E.ev y = some (.int k b)) (hop : op = .quo) (hb : b ≠ 0) : Gives P n E (.binOp op t x y u) ty (.int k (k.wrap (a.tdiv b))) :=
  .mk <| fun _ _ _ _ act ha w => by
    subst hop
    simp [execOp, ha.eval hx, ha.eval hy, eqGuard, binOp, Op.intDiv, hb]
theorem g_mod {op : BinOp} {x y : Operand} {t u : TypeId} {k : IntKind} {a b : Int} (hx : E.ev x = some (.int k a)) (hy : E.ev y = some (.int k b)) (hop : op = .rem) (hb : b ≠ 0) : Gives P n E (.binOp op t x y u) ty (.int k (a.tmod b)) :=
  .mk <| fun _ _ _ _ act ha w => by
    subst hop
    simp [execOp, ha.eval hx, ha.eval hy, eqGuard, binOp, Op.intDiv, hb]
theorem g_neg {x : Operand} {t : TypeId} {k : IntKind} {a : Int} (hx : E.ev x = some (.int k a)) (hin : inK k (-a)) : Gives P n E (.unOp .neg t x) ty (.int k (-a)) :=
  .mk <| fun _ _ _ _ act ha w => by
    simp [execOp, ha.eval hx, Op.unary, Op.intArith, wrap_in hin]
theorem g_neg_wrap {x : Operand} {t : TypeId} {k : IntKind} {a : Int} (hx : E.ev x = some (.int k a)) : Gives P n E (.unOp .neg t x) ty (.int k (k.wrap (-a))) :=
  .mk <| fun _ _ _ _ act ha w => by
    simp [execOp, ha.eval hx, Op.unary, Op.intArith]
theorem g_shl {op : BinOp} {x y : Operand} {t u : TypeId} {k k' : IntKind} {a b : Int} (hx : E.ev x = some (.int k a)) (hy : E.ev y = some (.int k' b)) (hop : op = .shl) (hb : 0 ≤ b) : Gives P n E (.binOp op t x y u) ty (.int k (k.wrap (a * 2 ^ (min b.toNat k.bits)))) :=
  .mk <| fun _ _ _ _ act ha w => by
    subst hop
    have hb' : ¬ b < 0 := by omega
    simp [execOp, ha.eval hx, ha.eval hy, eqGuard, binOp, Op.shift, hb']
theorem g_shr {op : BinOp} {x y : Operand} {t u : TypeId} {k k' : IntKind} {a b : Int} (hx : E.ev x = some (.int k a)) (hy : E.ev y = some (.int k' b)) (hop : op = .shr) (hb : 0 ≤ b) : Gives P n E (.binOp op t x y u) ty (.int k (a / 2 ^ (min b.toNat k.bits))) :=
  .mk <| fun _ _ _ _ act ha w => by
    subst hop
    have hb' : ¬ b < 0 := by omega
    have hp : (0 : Int) ≤ 2 ^ (min b.toNat k.bits) := Int.le_of_lt (Int.pow_pos (by decide))
    simp [execOp, ha.eval hx, ha.eval hy, eqGuard, binOp, Op.shift, hb', Int.fdiv_eq_ediv_of_nonneg a hp]
theorem g_concat {x y : Operand} {t u : TypeId} {a b : ByteArray} (hx : E.ev x = some (.string a)) (hy : E.ev y = some (.string b)) (hs : a.size + b.size ≤ 9223372036854775807) : Gives P n E (.binOp .add t x y u) ty (.string (a ++ b)) :=
  .mk <| fun _ _ _ _ act ha w => by
    have hs' : ¬ (((a.size + b.size : Nat) : Int) > IntKind.i64.max) := by
      simp [IntKind.max, IntKind.signed, IntKind.bits]; omega
    simp only [execOp, ha.eval hx, ha.eval hy, eqGuard, binOp, Op.stringOp, if_neg hs']
    simp

/-! ### Indexes and slices -/
theorem g_indexAddr (T : Tab P) {x y : Operand} {t : TypeId} {i : TyI} {ud : TypeDesc} {us ub : Nat} {uz : List Value} {e : TypeId} {k : IntKind} {m : Int} {b o len cap : Nat} (hx : E.ev x = some (.slice (some ⟨b, o, none⟩) len cap)) (hy : E.ev y = some (.int k m)) (ht : T.get t = some i) (hi : i.desc = .slice e)
    (he : T.get e = some ⟨ud, us, ub, uz⟩) (h0 : 0 ≤ m) (h1 : m < len) : Gives P n E (.indexAddr t x y) ty (.pointer (some ⟨b, o + m.toNat * us, none⟩)) :=
  .mk <| fun _ _ _ _ act ha w => by
    have hu := T.und ht
    rw [hi] at hu
    obtain ⟨ti, z, g1, g2, _, _, _⟩ := T.inf he
    have hadd : (⟨b, o, none⟩ : Addr).add (m.toNat * us) = ⟨b, o + m.toNat * us, none⟩ := by
      unfold Addr.add; split
      · rename_i hz; rw [hz]; rfl
      · rfl
    simp [execOp, ha.eval hx, ha.eval hy, Instr.indexAt, asIntOf, run_underlying hu, h0, h1, sizeOf, typeInfo, program, Sem.run, g1, g2, hadd]
/-- An element's address in an array behind a pointer. -/
theorem g_indexAddrG (T : Tab P) {x y : Operand} {t : TypeId} {i : TyI} {ud : TypeDesc} {us ub : Nat} {uz : List Value} {e : TypeId} {k : IntKind} {m : Int} {a : Addr} {len cap : Nat} (hx : E.ev x = some (.slice (some a) len cap)) (hy : E.ev y = some (.int k m)) (ht : T.get t = some i) (hi : i.desc = .slice e)
    (he : T.get e = some ⟨ud, us, ub, uz⟩) (h0 : 0 ≤ m) (h1 : m < len) : Gives P n E (.indexAddr t x y) ty (.pointer (some (a.add (m.toNat * us)))) :=
  .mk <| fun _ _ _ _ act ha w => by
    have hu := T.und ht
    rw [hi] at hu
    obtain ⟨ti, z, g1, g2, _, _, _⟩ := T.inf he
    simp [execOp, ha.eval hx, ha.eval hy, Instr.indexAt, asIntOf, run_underlying hu, h0, h1, sizeOf, typeInfo, program, Sem.run, g1, g2]
theorem g_indexAddrA (T : Tab P) {x y : Operand} {t : TypeId} {i : TyI} {ud : TypeDesc} {us ub : Nat} {uz : List Value} {e : TypeId} {k : IntKind} {m : Int} {b o len : Nat} (hx : E.ev x = some (.pointer (some ⟨b, o, none⟩))) (hy : E.ev y = some (.int k m)) (ht : T.get t = some i) (hi : i.desc = .array len e)
    (he : T.get e = some ⟨ud, us, ub, uz⟩) (h0 : 0 ≤ m) (h1 : m < len) : Gives P n E (.indexAddr t x y) ty (.pointer (some ⟨b, o + m.toNat * us, none⟩)) :=
  .mk <| fun _ _ _ _ act ha w => by
    have hu := T.und ht
    rw [hi] at hu
    obtain ⟨ti, z, g1, g2, _, _, _⟩ := T.inf he
    have hadd : (⟨b, o, none⟩ : Addr).add (m.toNat * us) = ⟨b, o + m.toNat * us, none⟩ := by
      unfold Addr.add; split
      · rename_i hz; rw [hz]; rfl
      · rfl
    simp [execOp, ha.eval hx, ha.eval hy, Instr.indexAt, Instr.sureAddr, asIntOf, run_underlying hu, h0, h1, sizeOf, typeInfo, program, Sem.run, g1, g2, hadd]
/-- A byte of a string. -/
theorem g_index (T : Tab P) {x y : Operand} {t : TypeId} {i : TyI} {k : IntKind} {m : Int} {s : ByteArray} {c : UInt8} (hx : E.ev x = some (.string s)) (hy : E.ev y = some (.int k m)) (ht : T.get t = some i) (hi : i.desc = .string)
    (h0 : 0 ≤ m) (hc : s[m.toNat]? = some c) : Gives P n E (.index t x y) ty (.int .u8 (c.toNat : Int)) :=
  .mk <| fun _ _ _ _ act ha w => by
    have hu := T.und ht
    rw [hi] at hu
    simp [execOp, ha.eval hx, ha.eval hy, Instr.index, asIntOf, run_underlying hu, h0, hc]
def optI (E : Env) : Option Operand → Option (Option Int)
  | none => some none
  | some x => match E.ev x with
    | some (.int _ m) => some (some m)
    | _ => none
theorem optI_some {a : Act} (ha : EnvOk a E n) {x : Option Operand} {r : Option Int} (h : optI E x = some r) : (x = none ∧ r = none) ∨ ∃ y k m, x = some y ∧ a.eval y = .int k m ∧ r = some m := by
  cases x with
  | none => simp [optI] at h; exact .inl ⟨rfl, h.symm⟩
  | some y =>
    simp only [optI] at h
    split at h
    · rename_i k m hm; cases h; exact .inr ⟨y, k, m, rfl, ha.eval hm, rfl⟩
    · cases h
theorem g_fieldAddrG (T : Tab P) {x : Operand} {s : TypeId} {f : Nat} {i fi : TyI} {fields : Array Field} {fnm ftg fpk : String} {fty foff fby : Nat} {fem : Bool} {a : Addr} (hx : E.ev x = some (.pointer (some a))) (ht : T.get s = some i) (hi : i.desc = .struct fields) (hf : fields.toList[f]? = some ⟨fnm, fty, foff, fem, ftg, fpk, fby⟩) (hfi : T.get fty = some fi) (hz : Nat.blt 0 fi.size = true) :
    Gives P n E (.fieldAddr s x f) ty (.pointer (some (a.add foff))) :=
  .mk <| fun _ _ _ _ act ha w => by
    have hu := T.und ht
    rw [hi] at hu
    obtain ⟨ti, z, g1, g2, _, _, _⟩ := T.inf hfi
    have hz' : ti.size ≠ 0 := by rw [g2]; simp [Nat.blt_eq] at hz; omega
    have hf' : fields[f]? = some ⟨fnm, fty, foff, fem, ftg, fpk, fby⟩ := by simpa using hf
    simp only [execOp, ha.eval hx, Instr.fieldAt, Sem.run_bind, run_underlying hu, Result.andThen_ok, hf', Instr.sureAddr, Sem.run_pure, fieldPlace, sizeOf, typeInfo, program, Sem.run, g1, if_neg hz']
/-- A piece of a string. -/
theorem g_sliceS (T : Tab P) {x : Operand} {lo hi : Option Operand} {t : TypeId} {i : TyI} {s : ByteArray} {l r : Option Int} (hx : E.ev x = some (.string s)) (hl : optI E lo = some l) (hh : optI E hi = some r) (ht : T.get t = some i) (hi' : i.desc = .string)
    (h0 : 0 ≤ l.getD 0) (h1 : l.getD 0 ≤ r.getD s.size) (h2 : r.getD s.size ≤ s.size) : Gives P n E (.slice t x lo hi none) ty (.string (s.extract (l.getD 0).toNat (r.getD s.size).toNat)) :=
  .mk <| fun _ _ _ _ act ha w => by
    have hu := T.und ht
    rw [hi'] at hu
    rcases optI_some ha hl with ⟨rfl, rfl⟩ | ⟨yl, kl, ml, rfl, el, rfl⟩ <;> rcases optI_some ha hh with ⟨rfl, rfl⟩ | ⟨yr, kr, mr, rfl, er, rfl⟩
    · simp [execOp, ha.eval hx, Instr.sliceAt, Instr.slice, Instr.sliceBounds, run_underlying hu]
    · simp only [Option.getD] at h0 h1 h2
      simp [execOp, ha.eval hx, Instr.sliceAt, Instr.slice, Instr.sliceBounds, Instr.sliceBound, asIntOf, run_underlying hu, er, h2, show 0 ≤ mr by omega]
    · simp only [Option.getD] at h0 h1 h2
      simp [execOp, ha.eval hx, Instr.sliceAt, Instr.slice, Instr.sliceBounds, Instr.sliceBound, asIntOf, run_underlying hu, el, h0, h1]
    · simp only [Option.getD] at h0 h1 h2
      simp [execOp, ha.eval hx, Instr.sliceAt, Instr.slice, Instr.sliceBounds, Instr.sliceBound, asIntOf, run_underlying hu, el, er, h0, h2, show 0 ≤ mr by omega]
      intro hc; exfalso; omega
/-- A piece of a slice. -/
def sliceV (ao : Option Addr) (cap sz l r : Nat) : Value := .slice (if cap = l then ao else ao.map (·.add (l * sz))) (r - l) (cap - l)
theorem g_slice (T : Tab P) {x : Operand} {lo hi : Option Operand} {t e : TypeId} {i : TyI} {ud : TypeDesc} {us ub : Nat} {uz : List Value} {ao : Option Addr} {len cap : Nat} {l r : Option Int} (hx : E.ev x = some (.slice ao len cap)) (hl : optI E lo = some l) (hh : optI E hi = some r) (ht : T.get t = some i) (hi' : i.desc = .slice e)
    (he : T.get e = some ⟨ud, us, ub, uz⟩) (h0 : 0 ≤ l.getD 0) (h1 : l.getD 0 ≤ r.getD len) (h2 : r.getD len ≤ cap) : Gives P n E (.slice t x lo hi none) ty (sliceV ao cap us (l.getD 0).toNat (r.getD len).toNat) :=
  .mk <| fun _ _ _ _ act ha w => by
    have hu := T.und ht
    rw [hi'] at hu
    obtain ⟨ti, z, g1, g2, _, _, _⟩ := T.inf he
    rcases optI_some ha hl with ⟨rfl, rfl⟩ | ⟨yl, kl, ml, rfl, el, rfl⟩ <;> rcases optI_some ha hh with ⟨rfl, rfl⟩ | ⟨yr, kr, mr, rfl, er, rfl⟩
    · simp [execOp, ha.eval hx, Instr.sliceAt, Instr.slice, Instr.sliceBounds, run_underlying hu, sizeOf, typeInfo, program, Sem.run, g1, g2, sliceV]
    · simp only [Option.getD] at h0 h1 h2
      simp [execOp, ha.eval hx, Instr.sliceAt, Instr.slice, Instr.sliceBounds, Instr.sliceBound, asIntOf, run_underlying hu, er, h2, show 0 ≤ mr by omega, sizeOf, typeInfo, program, Sem.run, g1, g2, sliceV]
    · simp only [Option.getD] at h0 h1 h2
      simp [execOp, ha.eval hx, Instr.sliceAt, Instr.slice, Instr.sliceBounds, Instr.sliceBound, asIntOf, run_underlying hu, el, h0, h1, sizeOf, typeInfo, program, Sem.run, g1, g2, sliceV]
    · simp only [Option.getD] at h0 h1 h2
      simp [execOp, ha.eval hx, Instr.sliceAt, Instr.slice, Instr.sliceBounds, Instr.sliceBound, asIntOf, run_underlying hu, el, er, h0, h2, show 0 ≤ mr by omega, sizeOf, typeInfo, program, Sem.run, g1, g2, sliceV]
      intro hc; exfalso; omega
/-- The head of a slice. -/
theorem g_slice0 (T : Tab P) {x y : Operand} {t e : TypeId} {i : TyI} {ud : TypeDesc} {us ub : Nat} {uz : List Value} {ao : Option Addr} {len cap : Nat} {k : IntKind} {m : Int} (hx : E.ev x = some (.slice ao len cap)) (hy : E.ev y = some (.int k m)) (ht : T.get t = some i) (hi' : i.desc = .slice e)
    (he : T.get e = some ⟨ud, us, ub, uz⟩) (h1 : 0 ≤ m) (h2 : m ≤ cap) : Gives P n E (.slice t x none (some y) none) ty (.slice ao m.toNat cap) := by
  have hz : sliceV ao cap us 0 m.toNat = .slice ao m.toNat cap := by
    unfold sliceV
    have h : ao.map (·.add (0 * us)) = ao := by
      cases ao with
      | none => rfl
      | some a => simp [Addr.add]
    rw [h]
    split <;> simp
  rw [← hz]
  exact g_slice T (l := none) (r := some m) hx rfl (by simp [optI, hy]) ht hi' he (Int.le_refl 0) h1 h2
/-! ### == at types that are no numbers -/
def eqT : TypeDesc → Value → Value → Option Bool
  | .bool, .bool a, .bool b => some (a == b)
  | .slice _, .slice none _ _, .slice b _ _ => some b.isNone
  | .slice _, .slice (some _) _ _, .slice none _ _ => some false
  | .pointer _, .pointer none, .pointer b => some b.isNone
  | .pointer _, .pointer (some _), .pointer none => some false
  | .map _ _, .map none, .map b => some b.isNone
  | .map _ _, .map (some _), .map none => some false
  | .func _ _ _, .nilFunc, .nilFunc => some true
  | .func _ _ _, .nilFunc, .func _ _ _ => some false
  | .func _ _ _, .func _ _ _, .nilFunc => some false
  | .interface _, .nilIface, .iface _ _ => some false
  | .interface _, .iface _ _, .nilIface => some false
  | _, _, _ => none
theorem equalIn_run {T : Tab P} {t : TypeId} {i : TyI} {u v : Value} {r : Bool} {w : World} (d : Nat) (ht : T.get t = some i) (h : eqT i.desc u v = some r) : (Op.equalIn (d + 1) t u v).run P w = .ok r w := by
  have hu := T.und ht
  unfold eqT at h
  split at h <;> first
    | (exfalso; simp at h; done)
    | (rename_i hd; simp only [Option.some.injEq] at h; subst h
       rw [hd] at hu
       unfold Op.equalIn
       simp only [Sem.run_bind, run_underlying hu, Result.andThen_ok, Sem.run_pure])
theorem eqT_run {T : Tab P} {t : TypeId} {i : TyI} {x y : Operand} {u v : Value} {r : Bool} {w : World} (ht : T.get t = some i) (h : eqT i.desc u v = some r) :
    (do eqGuard .eql t x y u v; binOp .eql t u v : Sem Value).run P w = .ok (.bool r) w ∧ (do eqGuard .neq t x y u v; binOp .neq t u v : Sem Value).run P w = .ok (.bool !r) w := by
  have he : (Op.equal t u v).run P w = .ok r w := equalIn_run 9999 ht h
  have hg : ∀ op, op = BinOp.eql ∨ op = BinOp.neq → (eqGuard op t x y u v).run P w = .ok () w := by
    intro op hop
    unfold eqT at h
    split at h <;> first
      | (exfalso; simp at h; done)
      | (rcases hop with rfl | rfl <;> simp [eqGuard])
  have h1 := hg .eql (.inl rfl)
  have h2 := hg .neq (.inr rfl)
  simp only [Sem.run_bind, h1, h2, Result.andThen_ok]
  unfold eqT at h
  split at h <;> first
    | (exfalso; simp at h; done)
    | (constructor <;> simp [binOp, he])
theorem g_eq (T : Tab P) {x y : Operand} {t yt : TypeId} {i : TyI} {u v : Value} {r : Bool} (hx : E.ev x = some u) (hy : E.ev y = some v) (ht : T.get t = some i) (hr : eqT i.desc u v = some r) : Gives P n E (.binOp .eql t x y yt) ty (.bool r) :=
  .mk <| fun _ _ _ _ act ha w => by
    have h1 := (eqT_run (x := x) (y := y) (w := w) ht hr).1
    simp only [execOp, ha.eval hx, ha.eval hy, Sem.run_bind] at h1 ⊢
    simp [h1]
theorem g_neq (T : Tab P) {x y : Operand} {t yt : TypeId} {i : TyI} {u v : Value} {r : Bool} (hx : E.ev x = some u) (hy : E.ev y = some v) (ht : T.get t = some i) (hr : eqT i.desc u v = some r) : Gives P n E (.binOp .neq t x y yt) ty (.bool !r) :=
  .mk <| fun _ _ _ _ act ha w => by
    have h1 := (eqT_run (x := x) (y := y) (w := w) ht hr).2
    simp only [execOp, ha.eval hx, ha.eval hy, Sem.run_bind] at h1 ⊢
    simp [h1]
end
end Go.Sx

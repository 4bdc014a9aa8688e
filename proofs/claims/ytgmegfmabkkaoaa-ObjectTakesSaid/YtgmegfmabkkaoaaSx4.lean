/- Small rules for symbolic steps, the fourth part: pure operations run so. Program-independent. -/
import Derived.Test.YtgmegfmabkkaoaaSx3
namespace Go.Sx
open Go

section
variable {P : Program} {n : Cx} {E : Env} {a : Act} {w : World}

theorem run_part {T : Tab P} {t : TypeId} {i : TyI} {cs : Array Value} {off : Nat} {vs : List Value} {v : Value} (ht : T.get t = some i) (hn : nths cs.toList off i.size = some vs) (hv : packV (isAggD i.desc) vs = some v) :
    (part t cs off).run P w = .ok v w := by
  obtain ⟨ti, z, h1, h2, _, _, _⟩ := T.inf ht
  have hu := T.und ht
  obtain ⟨hl, hj⟩ := nths_spec hn
  have hagg : (isAgg t).run P w = .ok (isAggD i.desc) w := by
    unfold isAgg
    rw [Sem.run_bind, run_underlying hu w]
    cases i.desc <;> rfl
  unfold part
  rw [Sem.run_bind, hagg]
  simp only [Result.andThen_ok]
  cases hb : isAggD i.desc with
  | true =>
    simp only [hb, packV, if_true, Option.some.injEq] at hv ⊢
    subst hv
    simp only [Sem.run_bind, sizeOf, typeInfo, program, Sem.run, h1, Sem.run_pure, Result.andThen_ok]
    congr 2
    apply Array.ext_getElem?
    intro k
    simp only [Array.getElem?_extract, List.getElem?_toArray, h2]
    by_cases hk : k < i.size
    · have hlt : off + k < cs.size := by
        have := hj k hk
        have hsome : (vs[k]?).isSome := by simp [hl, hk]
        rw [← this] at hsome
        simpa using hsome
      rw [← hj k hk]
      rw [if_pos (by omega)]
      simp
    · rw [if_neg (by omega), List.getElem?_eq_none (by omega)]
  | false =>
    simp only [hb, packV, Bool.false_eq_true, if_false] at hv
    match vs, hv, hl, hj with
    | [u], hv, hl, hj =>
      simp only [Option.some.injEq] at hv
      subst hv
      simp only [List.length_singleton] at hl
      have := hj 0 (by omega)
      simp only [Nat.add_zero, List.getElem?_cons_zero] at this
      have e : cs[off]? = some u := by simpa using this
      simp [e]

theorem beq_bytes (x y : ByteArray) : (x.toList == y.toList) = decide (x = y) := by
  rw [ByteArray.toList_eq, ByteArray.toList_eq, Bool.eq_iff_iff]
  simp only [beq_iff_eq, decide_eq_true_eq]
  constructor
  · intro h
    cases x; cases y
    congr 1
    exact Array.ext' h
  · intro h; rw [h]

theorem binB_run {op : BinOp} {t : TypeId} {x y : Operand} {u v r : Value} (h : binB op u v = some r) : (do eqGuard op t x y u v; binOp op t u v : Sem Value).run P w = .ok r w := by
  unfold binB at h
  split at h
  · rename_i k a' k' b'
    split at h
    · rename_i hk
      subst hk
      have hg : (eqGuard op t x y (.int k a') (.int k b')).run P w = .ok () w := by
        unfold eqGuard
        cases op <;> simp
      rw [Sem.run_bind, hg]
      simp only [Result.andThen_ok]
      cases op <;> simp only [Option.some.injEq, reduceCtorEq] at h <;> subst h <;> first | rfl | simp [binOp, Op.intCmp, Op.intBits, bits]
    · cases h
  · rename_i a' b'
    have hg : (eqGuard op t x y (.string a') (.string b')).run P w = .ok () w := by
      unfold eqGuard
      cases op <;> simp
    rw [Sem.run_bind, hg]
    simp only [Result.andThen_ok]
    cases op <;> simp only [Option.some.injEq, reduceCtorEq] at h <;> subst h <;> simp [binOp, Op.stringOp, beq_bytes]
  · cases h

theorem evalP_run {T : Tab P} {o : Oper} {v : Value} (h : evalP T E o.op = some v) (ha : EnvOk a E n) : (execOp a.eval o).run P w = .ok (.value v) w := by
  obtain ⟨dst, op, ty, pos, after, guard⟩ := o
  dsimp only at h
  cases op <;> simp only [evalP, reduceCtorEq] at h
  case move x => simp only [execOp, ha.eval h]; rfl
  case assign x => simp only [execOp, ha.eval h]; rfl
  case pick c x y =>
    split at h
    · rename_i hc; simp [execOp, ha.eval hc, ha.eval h, asBool]
    · rename_i hc; simp [execOp, ha.eval hc, ha.eval h, asBool]
    · cases h
  case nilCheck x =>
    split at h
    · rename_i p hx; cases h; simp [execOp, ha.eval hx]
    · rename_i f l c hx; cases h; simp [execOp, ha.eval hx]
    · cases h
  case extract x i =>
    split at h
    · rename_i vs hx
      rw [nth_eq] at h
      have e : vs[i]? = some v := by simpa using h
      simp [execOp, ha.eval hx, Instr.extract, e]
    · cases h
  case unOp op xt x =>
    cases op <;> simp only [reduceCtorEq] at h
    split at h
    · rename_i b hx; cases h; simp [execOp, ha.eval hx, Op.unary]
    · cases h
  case binOp op xt x y yt =>
    split at h
    · rename_i u1 u2 h1 h2
      simp only [execOp, ha.eval h1, ha.eval h2]
      have := binB_run (P := P) (w := w) (t := xt) (x := x) (y := y) h
      rw [Sem.run_bind, this]
      rfl
    · cases h
  case makeFunc fn first captured =>
    cases fn <;> simp only [reduceCtorEq] at h
    rename_i f
    split at h
    · rename_i l c h1 h2
      cases h
      have e1 : first.map a.eval = l.toArray := by
        apply Array.ext'
        simpa using ha.evals h1
      have e2 : captured.map a.eval = c.toArray := by
        apply Array.ext'
        simpa using ha.evals h2
      simp [execOp, Instr.makeFunc, e1, e2]
    · cases h
  case fieldAddr s x f =>
    split at h
    · rename_i b off i hx hi
      split at h
      · rename_i fields hd
        split at h
        · rename_i f1 f2 f3 f4 f5 f6 f7 hfd
          split at h
          · rename_i d1 d2 d3 d4 hfi
            split at h
            · cases h
            · rename_i hz
              cases h
              have hu := T.und hi
              rw [hd] at hu
              obtain ⟨ti, z, g1, g2, _, _, _⟩ := T.inf hfi
              have hfd' : fields[f]? = some ⟨f1, f2, f3, f4, f5, f6, f7⟩ := by simpa using hfd
              have hz' : ¬ ti.size = 0 := by rw [g2]; exact hz
              simp only [execOp, ha.eval hx, Instr.fieldAt, Sem.run_bind, run_underlying hu, Result.andThen_ok, hfd', Instr.sureAddr, Sem.run_pure, fieldPlace, sizeOf, typeInfo, program, Sem.run, g1, if_neg hz']
              simp only [Addr.add]
              split
              · rename_i h0; simp [h0]
              · rfl
          · cases h
        · cases h
      · cases h
    · cases h
  case field s x f =>
    split at h
    · rename_i cs i hx hi
      split at h
      · rename_i fields hd
        split at h
        · rename_i fd hfd
          split at h
          · rename_i fi hfi
            split at h
            · rename_i vs hvs
              have hu := T.und hi
              rw [hd] at hu
              have hfd' : fields[f]? = some fd := by simpa using hfd
              simp only [execOp, ha.eval hx, Instr.field, Sem.run_bind, run_underlying hu, Result.andThen_ok, hfd', asAgg, Sem.run_pure, run_part hfi hvs h]
            · cases h
          · cases h
        · cases h
      · cases h
    · cases h
  case convert src dst x =>
    split at h
    · rename_i i j u hi hj hx
      have hu1 := T.und hi
      have hu2 := T.und hj
      split at h
      · rename_i k k' m hd
        cases h
        rw [hd] at hu2
        simp only [execOp, ha.eval hx, convert, Sem.run_bind, run_underlying hu1, run_underlying hu2, Result.andThen_ok]
        cases i.desc <;> simp [Conv.intToInt]
      · rename_i s hd
        cases h
        rw [hd] at hu2
        simp only [execOp, ha.eval hx, convert, Sem.run_bind, run_underlying hu1, run_underlying hu2, Result.andThen_ok]
        cases i.desc <;> simp
      · cases h
    · cases h
  case call c =>
    obtain ⟨callee, args, argTypes⟩ := c
    split at h
    · rename_i x t hc hargs hts
      dsimp only at hc hargs hts
      subst hc
      obtain rfl : args = #[x] := by apply Array.ext'; simpa using hargs
      obtain rfl : argTypes = #[t] := by apply Array.ext'; simpa using hts
      split at h
      · rename_i i u hi hx
        have hu := T.und hi
        split at h
        · rename_i m hd
          cases h
          rw [hd] at hu
          simp [execOp, resolve, invoke, builtin, ha.eval hx, Builtin.len_, run_underlying hu, goInt]
        · rename_i s hd
          cases h
          rw [hd] at hu
          simp [execOp, resolve, invoke, builtin, ha.eval hx, Builtin.len_, run_underlying hu, goInt]
        · rename_i m hd
          cases h
          rw [hd] at hu
          simp [execOp, resolve, invoke, builtin, ha.eval hx, Builtin.len_, run_underlying hu, goInt]
        · cases h
      · cases h
    · cases h
end
end Go.Sx

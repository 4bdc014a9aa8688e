/- Small rules for symbolic steps, the twenty-second part: ranges over strings. Program-independent. -/
import Derived.Test.YtgmegfmabkkaoaaSxL
import Derived.Laws.RangeAny
namespace Go.Sx
open Go Chunk
set_option linter.unusedSimpArgs false
set_option linter.unusedVariables false
/-- A range over a string, at a place. -/
def itC (b : Nat) (s : ByteArray) (pos : Nat) : Chunk := obj b (.stringIter s pos)
section
variable {P : Program} {T : Tab P} {n : Cx} {E : Env} {w0 : World} {M : Nat → Prop} {H H' : List Chunk} {d : Nat} {ty : TypeId}
theorem eff_range (T : Tab P) {t : TypeId} {x : Operand} {s : ByteArray} {ti : TyI} (hx : E.ev x = some (.string s)) (ht : T.get t = some ti) (hd : ti.desc = .string) (hn : Nat.blt d n.m = true) :
    Eff P n w0 M H E (some d) (.range t x) ty (fun (_ : Nat) => True) (fun b => (d, .pointer (some ⟨b, 0, none⟩)) :: E) (fun b => itC b s 0 :: H) :=
  ⟨fun _ _ _ _ _ w hw h => xl_step_w rfl rfl hn (fun act ha => ⟨_, _, by
    have hu := T.und ht
    rw [hd] at hu
    simp only [execOp, ha.eval hx]
    rw [Sem.run_bind, run_range_string w t s hu]
    rfl, h _ _ trivial (by
      have := hw.alloc (o := .stringIter s 0)
      exact this)⟩)⟩
theorem eff_next {x : Operand} {b i pos : Nat} {s : ByteArray} (hx : E.ev x = some (.pointer (some ⟨b, 0, none⟩))) (hp : Sx.pick H i = some (itC b s pos, H')) (hl : pos < s.size) (hn : Nat.blt d n.m = true) :
    Eff (α := Unit) P n w0 M H E (some d) (.next x true) ty (fun _ => True) (fun _ => (d, .tuple #[.bool true, .int .i64 (pos : Int), .int .i32 ((Utf8.decode s pos).1 : Int)]) :: E) (fun _ => itC b s (pos + (Utf8.decode s pos).2) :: H') :=
  ⟨fun _ _ _ _ _ w hw h => xl_step_w rfl rfl hn (fun act ha => by
    have hw' := hw.pick i hp
    have hb : w.heap[b]? = some (.stringIter s pos) := hw'.head
    have hlt : b < w.heap.size := (Array.getElem?_eq_some_iff.1 hb).1
    have hset : ∀ o : Obj, (setObj b o).run P w = .ok () (w.putObj b o) := fun o => by simp [setObj, Sem.run, hb, World.putObj]
    have hget : (getObj b).run P w = .ok (.stringIter s pos) w := by simp [getObj, Sem.run, hb]
    refine ⟨_, w.putObj b (.stringIter s (pos + (Utf8.decode s pos).2)), ?_, h () _ trivial (hw'.turn rfl ⟨rfl, rfl, rfl, by simp, fun k _ hk => World.putObj_heap_other hk⟩ (World.putObj_heap_same hlt) (fun k hk => .inl hk))⟩
    simp only [execOp, ha.eval hx, Instr.next, Sem.run_bind, hget, Result.andThen_ok, hl, if_true, hset, Sem.run_pure]
    simp [goInt, Sem.run])⟩
theorem eff_nextE {x : Operand} {b i pos : Nat} {s : ByteArray} (hx : E.ev x = some (.pointer (some ⟨b, 0, none⟩))) (hp : Sx.pick H i = some (itC b s pos, H')) (hl : ¬ pos < s.size) (hn : Nat.blt d n.m = true) :
    Eff (α := Unit) P n w0 M H E (some d) (.next x true) ty (fun _ => True) (fun _ => (d, .tuple #[.bool false]) :: E) (fun _ => itC b s pos :: H') :=
  ⟨fun _ _ _ _ _ w hw h => xl_step_w rfl rfl hn (fun act ha => by
    have hw' := hw.pick i hp
    have hb : w.heap[b]? = some (.stringIter s pos) := hw'.head
    have hget : (getObj b).run P w = .ok (.stringIter s pos) w := by simp [getObj, Sem.run, hb]
    refine ⟨_, w, ?_, h () _ trivial hw'⟩
    simp only [execOp, ha.eval hx, Instr.next, Sem.run_bind, hget, Result.andThen_ok, hl, if_false, Sem.run_pure])⟩
end
theorem St.gen0 {w0 w : World} {M : Nat → Prop} {H : List Chunk} (hw : St w0 M w H) : St w0 M w (genL [] :: H) :=
  ⟨hw.base, (fun x hx => by cases hx), (fun k hk => by obtain ⟨x, hx, _⟩ := hk; cases hx), (fun e he hwr k hk => by obtain ⟨x, hx, _⟩ := hk; cases hx), hw.sep⟩
section
variable {P : Program} {n : Cx} {Q : Exit → Act → World → Prop} {E : Env} {w0 : World} {M : Nat → Prop} {H Hk : List Chunk} {l : List Oper} {d i fuel : Nat} {ty : TypeId} {pos : String} {after : Array Edge} {g : Option (Nat × Bool)} {ls ord : List Nat} {listed : Array Bool}
/-- A load that is none of the quiet ones: a look into a map. -/
theorem wa_lde {op : Op} {v : Value} (hi : nthO l i = some ⟨some d, op, ty, pos, after, g⟩) (hr : (Region.ready .any l.toArray listed == [i]) = true) (hg : guardYes l E g = true) (hv : Lds P n H E op ty v) (hn : Nat.blt d n.m = true) (hq' : quietI l.toArray i = false)
    (h : WS w0 M H Hk (XO P l n Q (SC Hk) ls ((d, v) :: E) ord fuel (listed.setIfInBounds i true))) : WS w0 M H Hk (XO P l n Q (SC Hk) ls E (i :: ord) (fuel + 1) listed) := fun w hw hs =>
  ⟨xa_eff i hi hr (fun K hK ops ho => xl_yes ho hg (xl_step rfl rfl hn (fun a ha => hv.run _ _ _ _ a ha w hw.sc) (xl_nil (xq_any hK (by unfold Owed; rw [hq', if_neg (by decide)]; exact fun _ => hs) ((h w hw hs).run)))))⟩
end
section
variable {P : Program} {n : Cx} {E : Env} {w0 : World} {M : Nat → Prop} {H H' : List Chunk} {d : Nat} {ty : TypeId}
/-- append of what is read alone. -/
theorem eff_appendRng {i j : Nat} (T : Tab P) {s x : Operand} {t e : TypeId} {ti ie : TyI} {ao as : Option Addr} {len cap sz m c : Nat} {xs xs2 : List Value}
    (hs : E.ev s = some (.slice ao len cap)) (hx : E.ev x = some (.slice as m c)) (hp : Sx.pick H i = some (row ao cap e sz len xs, H')) (hp2 : nthC H' j = some (rng as xs2)) (ht : T.get t = some ti) (hti : ti.desc = .slice e) (he : T.get e = some ie) (hsz : Nat.beq ie.size sz = true) (hpos : Nat.blt 0 sz = true) (hzl : Nat.beq ie.zero.length sz = true)
    (hn : Nat.blt d n.m = true) (hm : xs2.length = m * sz) (h1 : ∀ u ∈ xs2, u.oneCell' = true) (hbytes : (len + m) * ie.bytes ≤ 140737488355328) (hmax : len + m ≤ maxLen) :
    Eff P n w0 M H E (some d) (.call { callee := .builtin .append, args := #[s, x], argTypes := #[t, t] }) ty (fun (z : Option Addr × Nat) => len + m ≤ z.2) (fun z => (d, .slice z.1 (len + m) z.2) :: E) (fun z => row z.1 z.2 e sz (len + m) (xs ++ xs2) :: H') :=
  ⟨fun _ _ _ _ _ w hw h => by
    have hw2 := hw.pick i hp
    have hdst : w.ownsRow 0 e sz (.slice ao len cap) len xs := hw2.head
    have hsrc : (rng as xs2).ok w := hw2.sep.2.2.2.mem _ (nthC_mem hp2)
    cases as with
    | none =>
      have hx2 : xs2 = [] := by
        cases xs2 with
        | nil => rfl
        | cons v l =>
          obtain ⟨a, ha, _⟩ := hsrc 0 v rfl
          cases ha
      subst hx2
      have hm0 : m = 0 := by
        have hp' := blt_lt hpos
        rcases Nat.eq_zero_or_pos m with h0 | h0
        · exact h0
        · have := Nat.mul_pos h0 hp'
          simp at hm
          omega
      subst hm0
      have hlen : len ≤ cap := by
        rcases hdst.2 with ⟨hv, hz⟩ | ⟨g, c', cur, hv, _, _, hle, _⟩
        · omega
        · simp only [Value.slice.injEq] at hv; obtain ⟨_, _, rfl⟩ := hv; exact hle
      refine xl_step rfl rfl hn (v := .slice ao len cap) (fun act ha => ?_) ?_
      · obtain ⟨tinf, z, g1, g2, g3, g4, g5⟩ := T.inf he
        have hu := T.und ht
        rw [hti] at hu
        simp only [execOp, resolve, invoke, builtin, Sem.run_bind, Sem.run_pure, Result.andThen_ok, List.map_toArray, List.map_cons, List.map_nil, ha.eval hs, ha.eval hx]
        cases ao <;> simp [Builtin.append_, run_underlying hu, sizeOf, typeInfo, program, Sem.run, g1, Builtin.lenOf, hlen, Builtin.firstCells, storeCells]
      · have := h (ao, cap) w (by simpa using hlen) (by simpa using hw2)
        simpa using this
    | some a => exact xl_append_cells T hw hs hp hx ht hti he hsz hpos hzl hn hm (fun k u hk => rng_cell hsrc k u hk) h1 hbytes hmax (fun ao' cap' w' hw' hc _ => h (ao', cap') w' hc hw')⟩
end
theorem addr_zero (a : Addr) : a.add 0 = a := by unfold Addr.add; rw [if_pos rfl]
/-- Loads out of what is read alone: the address first. -/
theorem ld_gA {P : Program} (T : Tab P) {n : Cx} {C : List Chunk} {E : Env} {t : TypeId} {x : Operand} {ty : TypeId} {ti : TyI} {i : Nat} {a ad : Addr} {j : Nat} {xs : List Value} {v : Value} (hx : E.ev x = some (.pointer (some ad))) (ho : ad = a.add j) (hp : nthC C i = some (rng (some a) xs)) (ht : T.get t = some ti) (hi : isAggD ti.desc = false) (hv : xs[j]? = some v) : Lds P n C E (.load t x) ty v := ld_g T hx hp ht hi ho hv
theorem ld_gsA {P : Program} (T : Tab P) {n : Cx} {C : List Chunk} {E : Env} {t : TypeId} {x : Operand} {ty : TypeId} {ti : TyI} {i : Nat} {a ad : Addr} {j : Nat} {xs vs : List Value} (hx : E.ev x = some (.pointer (some ad))) (ho : ad = a.add j) (hp : nthC C i = some (rng (some a) xs)) (ht : T.get t = some ti) (hi : isAggD ti.desc = true) (hv : (xs.drop j).take ti.size = vs) (hl : j + ti.size ≤ xs.length) : Lds P n C E (.load t x) ty (.agg vs.toArray) := ld_gs T hx hp ht hi ho hv hl
end Go.Sx

/- Small rules for symbolic steps, the twelfth part: bytes of strings. Program-independent. -/
import Derived.Test.YtgmegfmabkkaoaaSxB
import Derived.Lib.ConvBytes
import Derived.Laws.BytesString
import Derived.Laws.IdiomStrings
namespace Go.Sx
open Go Chunk
set_option linter.unusedSimpArgs false
set_option linter.unusedVariables false

/-- Stores ahead of a block's mark. -/
theorem run_storeCells_fro (P : Program) (g o : Nat) (t : TypeId) (fz : Nat × Nat) : ∀ (vs : List Value) (i : Nat) (cur : Array Value) (w : World), w.heap[g]? = some (.cells cur t fz) → cur.size ≤ fz.1 → o + i + vs.length ≤ cur.size → (∀ v ∈ vs, v.oneCell' = true) →
    (storeCells ⟨g, o, none⟩ vs i).run P w = .ok () (w.setRow g (cur.toList.take (o + i) ++ vs ++ cur.toList.drop (o + i + vs.length)).toArray)
  | [], i, cur, w, hg, _, _, _ => by
    simp only [storeCells, List.append_nil, List.length_nil, Nat.add_zero, List.take_append_drop, Array.toArray_toList]
    rw [setRow_self w g cur t fz hg]
    rfl
  | v :: rest, i, cur, w, hg, hfz, hl, h1 => by
    have hi : o + i < cur.size := by simp at hl; omega
    have hadd : (⟨g, o, none⟩ : Addr).add i = ⟨g, o + i, none⟩ := by unfold Addr.add; split <;> simp_all
    have hcell : w.cell? ⟨g, o + i, none⟩ = some cur[o + i] := by simp [World.cell?, hg, hi]
    have hfro : w.frozen? ⟨g, o + i, none⟩ = false := by
      obtain ⟨lo, hi'⟩ := fz
      simp only [World.frozen?, hg, Bool.and_eq_false_iff, decide_eq_false_iff_not]
      left
      simp only at hfz
      omega
    have hst : (store ((⟨g, o, none⟩ : Addr).add i) v).run P w = .ok () (w.setRow g (cur.setIfInBounds (o + i) v)) := by
      rw [hadd, run_store P w _ v _ (h1 v (by simp)), hcell]
      simp [hfro, setCell_eq_setRow w g (o + i) cur t fz v hg]
    have ih := run_storeCells_fro P g o t fz rest (i + 1) (cur.setIfInBounds (o + i) v) (w.setRow g (cur.setIfInBounds (o + i) v)) (setRow_heap w g cur _ t _ hg) (by simp; omega) (by simp at hl ⊢; omega) (fun x hx => h1 x (by simp [hx]))
    simp only [storeCells, Sem.run_bind, hst, Result.andThen_ok, ih, setRow_setRow]
    congr 3
    have e := list_seg_step cur.toList (o + i) v rest (by simp at hl ⊢; omega)
    simpa [Array.toList_setIfInBounds, Nat.add_assoc] using e
/-- The bytes of a string as cells. -/
def bytC (s : ByteArray) : List Value := s.data.toList.map fun b => .int .u8 (b.toNat : Int)
theorem bytC_len (s : ByteArray) : (bytC s).length = s.size := by simp [bytC]

section
variable {P : Program} {T : Tab P} {n : Cx} {Q : Exit → Act → World → Prop} {E : Env} {w0 : World} {M : Nat → Prop} {H H' : List Chunk} {l L : List Oper}
  {d : Nat} {ty : TypeId} {pos : String} {after : Array Edge} {G : World → Prop} {C : List Chunk}
theorem fro_cell {w : World} {b : Nat} {cs : List Value} {t : TypeId} (h : (fro b cs t).ok w) (o : Nat) : w.cell? ⟨b, o, none⟩ = cs[o]? := by
  have h' : w.heap[b]? = some (.cells cs.toArray t (cs.length, cs.length + 1)) := h
  rw [cell_of_row w b o _ t _ h']; simp
theorem ld_f (T : Tab P) {i : Nat} {x : Operand} {t tb : TypeId} {ti : TyI} {b o : Nat} {cs : List Value} {v : Value} (hx : E.ev x = some (.pointer (some ⟨b, o, none⟩))) (hp : nthC C i = some (fro b cs tb)) (ht : T.get t = some ti) (hi : isAggD ti.desc = false) (hv : cs[o]? = some v) : Lds P n C E (.load t x) ty v :=
  .mk <| fun _ _ _ _ a ha w hw => run_load_cell' T rfl (ha.eval hx) ht hi (by rw [fro_cell (hw.nth hp), hv])
/-- A store of one cell. -/
theorem eff_storef {i : Nat} (T : Tab P) {x y : Operand} {t tb : TypeId} {ti : TyI} {b o : Nat} {cs : List Value} {v : Value} (hx : E.ev x = some (.pointer (some ⟨b, o, none⟩))) (hp : Sx.pick H i = some (fro b cs tb, H')) (hy : E.ev y = some v) (hv : cellsO v = some [v]) (h1 : oneC [v] = true)
    (ht : T.get t = some ti) (hz : Nat.beq 1 ti.size = true) (ho : o < cs.length) : Eff (α := Unit) P n w0 M H E none (.store t x y) ty (fun _ => True) (fun _ => E) (fun _ => fro b (cs.set o v) tb :: H') :=
  ⟨fun _ _ _ _ _ w hw h => xl_step_u rfl rfl (fun act ha => by
    obtain ⟨tinf, z, g1, g2, _, _, _⟩ := T.inf ht
    have hw' := hw.pick i hp
    have hb : w.heap[b]? = some (.cells cs.toArray tb (cs.length, cs.length + 1)) := hw'.head
    have hz' : 1 = tinf.size := by rw [g2]; exact Nat.eq_of_beq_eq_true hz
    have hst := run_storeCells_fro P b o tb _ [v] 0 cs.toArray w hb (by simp) (by simp; omega) (oneC_eq h1)
    have hc := cellsO_eq hv
    have hset : cs.take o ++ [v] ++ cs.drop (o + 1) = cs.set o v := by
      rw [List.set_eq_take_append_cons_drop, if_pos ho]; simp
    refine ⟨w.setRow b (cs.set o v).toArray, ?_, h () _ trivial (hw'.turn rfl (Turns.setRow w b _) ?_ (fun k hk => .inl hk))⟩
    · simp only [execOp, ha.eval hx, ha.eval hy, Instr.storeAt, Instr.sureAddr, Sem.run_bind, Sem.run_pure, Result.andThen_ok, storeVar, sizeOf, typeInfo, program, Sem.run, g1, hc]
      rw [if_neg (by simp; omega)]
      simp only [Nat.add_zero, List.length_singleton] at hst
      rw [hst]
      simp only [Result.andThen_ok, hset]
    · have := setRow_heap w b cs.toArray (cs.set o v).toArray tb _ hb
      show (w.setRow b (cs.set o v).toArray).heap[b]? = _
      rw [this]
      simp)⟩
/-- []byte(s). -/
theorem eff_bytes (T : Tab P) {x : Operand} {src dst e : TypeId} {si di ei : TyI} {s : ByteArray} (hx : E.ev x = some (.string s)) (hs : T.get src = some si) (hsd : si.desc = .string) (hd : T.get dst = some di) (hdd : di.desc = .slice e) (he : T.get e = some ei) (hed : ei.desc = .int .u8) (hn : Nat.blt d n.m = true) :
    Eff P n w0 M H E (some d) (.convert src dst x) ty (fun (z : Nat × Nat) => s.size ≤ z.2 ∧ (s.size ≤ maxLen → z.2 ≤ maxLen)) (fun z => (d, .slice (some ⟨z.1, 0, none⟩) s.size z.2) :: E) (fun z => fro z.1 (bytC s ++ List.replicate (z.2 - s.size) (.int .u8 0)) e :: H) :=
  ⟨fun _ _ _ _ _ w hw h => xl_step_w rfl rfl hn (fun act ha => by
    have hu1 := T.und hs
    rw [hsd] at hu1
    have hu2 := T.und hd
    rw [hdd] at hu2
    have hu3 := T.und he
    rw [hed] at hu3
    have hrun := run_bytes_of_string (P := P) w src dst e s hu1 hu2 hu3
    have hcap := grownCap_ge w s.size 0 e
    have hmax := grownCap_le_maxLen w s.size 0 e
    have hrow : ∀ c, bytesRow s c = (bytC s ++ List.replicate (c - s.size) (Value.int .u8 0)).toArray := fun c => by
      apply Array.ext'
      simp [bytesRow, bytC]
    rw [hrow] at hrun
    generalize grownCap w s.size 0 e = c at hrun hcap hmax
    refine ⟨_, w.drew.alloc (.cells (bytC s ++ List.replicate (c - s.size) (Value.int .u8 0)).toArray e ((bytC s ++ List.replicate (c - s.size) (Value.int .u8 0)).toArray.size, (bytC s ++ List.replicate (c - s.size) (Value.int .u8 0)).toArray.size + 1)), ?_, h (w.heap.size, c) _ ⟨hcap, hmax⟩ ?_⟩
    · simp only [execOp, ha.eval hx, Sem.run_bind, hrun, Result.andThen_ok, Sem.run_pure]
    · refine hw.new ((Turns.drew _ w).trans (Turns.alloc _ w.drew _)) ?_ (fun k hk => ?_)
      · have := heap_alloc_new w.drew (.cells (bytC s ++ List.replicate (c - s.size) (Value.int .u8 0)).toArray e ((bytC s ++ List.replicate (c - s.size) (Value.int .u8 0)).toArray.size, (bytC s ++ List.replicate (c - s.size) (Value.int .u8 0)).toArray.size + 1))
        simp only [List.size_toArray] at this ⊢
        exact this
      · have hk' : k = w.heap.size := hk
        subst hk'
        exact ⟨Nat.le_refl _, by show w.heap.size < (w.heap.push _).size; simp⟩)⟩
/-- string(b), where b's cells are known. -/
theorem run_str {a : Act} {w : World} {x : Operand} {src dst e : TypeId} {si di ei : TyI} (T : Tab P) {ad : Addr} {len cap : Nat} {s : ByteArray} {o : Oper} (ho : o.op = .convert src dst x) (hx : a.eval x = .slice (some ad) len cap) (hs : T.get src = some si) (hsd : si.desc = .slice e) (he : T.get e = some ei) (hed : ei.desc = .int .u8) (hd : T.get dst = some di) (hdd : di.desc = .string)
    (hl : len = s.size) (hc : ∀ j v, (bytC s)[j]? = some v → w.cell? (ad.add j) = some v) : (execOp a.eval o).run P w = .ok (.value (.string s)) w := by
  have hu1 := T.und hs
  rw [hsd] at hu1
  have hu2 := T.und hd
  rw [hdd] at hu2
  have hu3 := T.und he
  rw [hed] at hu3
  have hlen : s.data.toList.length = s.size := by simp
  have hrun := run_convert_bytes_back (P := P) w src dst e ad cap s.data.toList hu1 hu3 hu2 (fun j hj => by
    refine hc j _ ?_
    simp only [bytC, List.getElem?_map, List.getElem?_eq_getElem hj, Option.map_some])
  subst hl
  rw [hlen] at hrun
  simp only [execOp, ho, hx, Sem.run_bind, hrun, Result.andThen_ok, Sem.run_pure]
theorem ld_strf (T : Tab P) {i : Nat} {x : Operand} {src dst e tb : TypeId} {si di ei : TyI} {b len cap : Nat} {cs rest : List Value} {s : ByteArray} (hx : E.ev x = some (.slice (some ⟨b, 0, none⟩) len cap)) (hp : nthC C i = some (fro b cs tb)) (hs : T.get src = some si) (hsd : si.desc = .slice e) (he : T.get e = some ei) (hed : ei.desc = .int .u8) (hd : T.get dst = some di) (hdd : di.desc = .string)
    (hcs : cs = bytC s ++ rest) (hl : len = s.size) : Lds P n C E (.convert src dst x) ty (.string s) :=
  .mk <| fun _ _ _ _ a ha w hw => run_str T rfl (ha.eval hx) hs hsd he hed hd hdd hl (fun j v hj => by
    rw [addr_add, Nat.zero_add, fro_cell (hw.nth hp), hcs]
    rw [List.getElem?_append_left (List.getElem?_eq_some_iff.1 hj).1, hj])
theorem ld_strr (T : Tab P) {i : Nat} {x : Operand} {src dst e tb : TypeId} {si di ei : TyI} {g sz m len cap cap' : Nat} {xs rest : List Value} {s : ByteArray} (hx : E.ev x = some (.slice (some ⟨g, 0, none⟩) len cap)) (hp : nthC C i = some (row (some ⟨g, 0, none⟩) cap' tb sz m xs)) (hs : T.get src = some si) (hsd : si.desc = .slice e) (he : T.get e = some ei) (hed : ei.desc = .int .u8) (hd : T.get dst = some di) (hdd : di.desc = .string)
    (hcs : xs = bytC s ++ rest) (hl : len = s.size) : Lds P n C E (.convert src dst x) ty (.string s) :=
  .mk <| fun _ _ _ _ a ha w hw => run_str T rfl (ha.eval hx) hs hsd he hed hd hdd hl (fun j v hj => by
    rw [addr_add, Nat.zero_add]
    refine row_cell (hw.nth hp) j v ?_
    rw [hcs, List.getElem?_append_left (List.getElem?_eq_some_iff.1 hj).1, hj])
theorem ld_strb (T : Tab P) {i : Nat} {x : Operand} {src dst e tb : TypeId} {si di ei : TyI} {b len cap : Nat} {cs rest : List Value} {s : ByteArray} (hx : E.ev x = some (.slice (some ⟨b, 0, none⟩) len cap)) (hp : nthC C i = some (blk b cs tb)) (hs : T.get src = some si) (hsd : si.desc = .slice e) (he : T.get e = some ei) (hed : ei.desc = .int .u8) (hd : T.get dst = some di) (hdd : di.desc = .string)
    (hcs : cs = bytC s ++ rest) (hl : len = s.size) : Lds P n C E (.convert src dst x) ty (.string s) :=
  .mk <| fun _ _ _ _ a ha w hw => run_str T rfl (ha.eval hx) hs hsd he hed hd hdd hl (fun j v hj => by
    rw [addr_add, Nat.zero_add, blk_cell (hw.nth hp), hcs]
    rw [List.getElem?_append_left (List.getElem?_eq_some_iff.1 hj).1, hj])
/-- string(nil). -/
theorem g_strnil (T : Tab P) {x : Operand} {src dst e : TypeId} {si di ei : TyI} {len cap : Nat} (hx : E.ev x = some (.slice none len cap)) (hs : T.get src = some si) (hsd : si.desc = .slice e) (he : T.get e = some ei) (hed : ei.desc = .int .u8) (hd : T.get dst = some di) (hdd : di.desc = .string) : Gives P n E (.convert src dst x) ty (.string .empty) :=
  .mk <| fun _ _ _ _ a ha w => by
    have hu1 := T.und hs
    rw [hsd] at hu1
    have hu2 := T.und hd
    rw [hdd] at hu2
    have hu3 := T.und he
    rw [hed] at hu3
    simp [execOp, ha.eval hx, run_convert_bytes_string w src dst e none len cap hu1 hu3 hu2, Conv.bytesToString]
end
end Go.Sx

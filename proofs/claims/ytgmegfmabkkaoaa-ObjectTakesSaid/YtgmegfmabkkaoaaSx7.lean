/- Small rules for symbolic steps, the seventh part: literals, append, calls, loops. Program-independent. -/
import Derived.Test.YtgmegfmabkkaoaaSx6
import Derived.Deep.LoopGhost
namespace Go.Sx
open Go Chunk
set_option linter.unusedSimpArgs false

theorem blt_lt {a b : Nat} (h : Nat.blt a b = true) : a < b := by simpa [Nat.blt_eq] using h
/-! ### Literals -/
/-- Where the parts of a literal lie: the field's offset and size, or the element's. -/
def placeF {P : Program} (T : Tab P) (fields : List Field) (i : Nat) : Option (Nat × Nat) :=
  match fields[i]? with
  | some f => match T.get f.type with
    | some ti => some (f.offset, ti.size)
    | none => none
  | none => none
def placeS (sz : Nat) (i : Nat) : Option (Nat × Nat) := some (i * sz, sz)
def fillL (place : Nat → Option (Nat × Nat)) : List Value → List (Nat × Value) → Option (List Value)
  | cs, [] => some cs
  | cs, (i, v) :: r => match place i, cellsO v with
    | some (off, size), some vs => if Nat.beq vs.length size && Nat.blt 0 size then (match setsO cs off vs with
      | some cs' => fillL place cs' r
      | none => none) else none
    | _, _ => none

theorem foldl_sets (vs : List Value) : ∀ (k off : Nat) (cs : List Value), off + k + vs.length ≤ cs.length →
    ((vs.zipIdx k).foldl (fun (c : Array Value) (x : Value × Nat) => c.setIfInBounds (off + x.2) x.1) cs.toArray) = (cs.take (off + k) ++ vs ++ cs.drop (off + k + vs.length)).toArray := by
  induction vs with
  | nil => intro k off cs _; simp
  | cons v vs ih =>
    intro k off cs hlen
    simp only [List.length_cons] at hlen
    simp only [List.zipIdx_cons, List.foldl_cons, List.setIfInBounds_toArray]
    rw [ih (k + 1) off (cs.set (off + k) v) (by simp; omega)]
    congr 1
    have hlt : off + k < cs.length := by omega
    rw [show off + (k + 1) = (off + k) + 1 by omega]
    have e1 : (cs.set (off + k) v).take (off + k + 1) = cs.take (off + k) ++ [v] := by
      rw [List.take_succ_eq_append_getElem (by simpa using hlt)]
      simp [List.take_set_of_le]
    have e2 : (cs.set (off + k) v).drop (off + k + 1 + vs.length) = cs.drop (off + k + 1 + vs.length) := by
      rw [List.drop_set_of_lt (by omega)]
    rw [e1, e2]
    simp only [List.append_assoc, List.singleton_append, List.length_cons]
    rw [show off + k + 1 + vs.length = off + k + (vs.length + 1) by omega]

theorem fillL_eq {place place' : Nat → Option (Nat × Nat)} (hpl : ∀ i r, place i = some r → place' i = some r) : ∀ {parts : List (Nat × Value)} {cs r : List Value}, fillL place cs parts = some r → Instr.fill place' cs.toArray parts = some r.toArray
  | [], cs, r, h => by simp only [fillL, Option.some.injEq] at h; subst h; rfl
  | (i, v) :: rest, cs, r, h => by
    simp only [fillL] at h
    split at h
    · rename_i off size vs hp hc
      split at h
      · rename_i hsz
        cases hs : setsO cs off vs with
        | none => simp [hs] at h
        | some cs' =>
          simp only [hs] at h
          have ih := fillL_eq hpl h
          have hcell := cellsO_eq hc
          have hl : vs.length = size := Nat.eq_of_beq_eq_true (Bool.and_eq_true_iff.1 hsz).1
          obtain ⟨k1, k2, k3⟩ := setsO_eq hs
          unfold Instr.fill
          rw [hpl i _ hp]
          simp only [hcell]
          have hne : vs ≠ [] := by
            intro hv; subst hv
            simp at hsz
            omega
          have hb := k2 hne
          rw [if_neg (by simp [hl]; omega)]
          have := foldl_sets vs 0 off cs (by omega)
          simp only [Nat.add_zero] at this
          rw [← Array.foldl_toList, Array.toList_zipIdx, this, ← k3]
          exact ih
      · cases h
    · cases h

def catO : List Value → List Value → Option (List Value)
  | [], r => some r
  | v :: l, r => match catO l r with
    | some t => some (v :: t)
    | none => none
theorem catO_eq : ∀ {l r t : List Value}, catO l r = some t → t = l ++ r
  | [], r, t, h => by simp only [catO, Option.some.injEq] at h; simp [h]
  | v :: l, r, t, h => by
    simp only [catO] at h
    cases h1 : catO l r with
    | none => simp [h1] at h
    | some t' => simp only [h1, Option.some.injEq] at h; subst h; simp [catO_eq h1]
def repL : Nat → List Value → Option (List Value)
  | 0, _ => some []
  | k + 1, z => match repL k z with
    | some r => catO z r
    | none => none
/-- The zero cells of so many elements. -/
def zerosL (len : Nat) (z : List Value) : Option (List Value) := repL len z
theorem zerosL_eq {len : Nat} {z zs : List Value} (h : zerosL len z = some zs) : (List.range (len * z.length)).map (z.toArray[· % z.toArray.size]!) = zs := by
  unfold zerosL at h
  induction len generalizing zs with
  | zero => simp only [repL, Option.some.injEq] at h; subst h; simp
  | succ k ih =>
    simp only [repL] at h
    cases h1 : repL k z with
    | none => simp [h1] at h
    | some r =>
      simp only [h1] at h
      have := catO_eq h
      subst this
      rw [← ih h1, Nat.succ_mul, Nat.add_comm, List.range_add, List.map_append]
      congr 1
      · apply List.ext_getElem?
        intro j
        by_cases hj : j < z.length
        · simp [hj, Nat.mod_eq_of_lt hj]
        · simp [hj, List.getElem?_eq_none (Nat.le_of_not_lt hj)]
      · rw [List.map_map]
        apply List.map_congr_left
        intro j _
        simp

section
variable {P : Program} {T : Tab P} {n : Cx} {Q : Exit → Act → World → Prop} {E : Env} {w w0 : World} {M : Nat → Prop} {H H' : List Chunk} {ops : Array Oper} {L : List Oper}
  {d : Nat} {ty : TypeId} {pos : String} {after : Array Edge}

theorem run_places {T : Tab P} : ∀ (fields : List Field), (∀ f ∈ fields, (T.get f.type).isSome = true) →
    (fields.mapM (fun f => do pure (f.offset, ← sizeOf f.type) : Field → Sem (Nat × Nat))).run P w = .ok (fields.map fun f => (f.offset, ((T.get f.type).map (·.size)).getD 0)) w
  | [], _ => by simp
  | f :: fs, h => by
    obtain ⟨ti, hti⟩ := Option.isSome_iff_exists.1 (h f (by simp))
    obtain ⟨i, z, g1, g2, _, _, _⟩ := T.inf hti
    have ih := run_places (T := T) fs (fun x hx => h x (by simp [hx]))
    simp only [List.mapM_cons, Sem.run_bind, sizeOf, typeInfo, program, Sem.run, g1, Sem.run_pure, Result.andThen_ok] at ih ⊢
    rw [ih]
    simp [hti, g2]

def fieldsOk {P : Program} (T : Tab P) : List Field → Bool
  | [] => true
  | f :: fs => match T.get f.type with
    | some _ => fieldsOk T fs
    | none => false
theorem fieldsOk_eq {T : Tab P} : ∀ {fields : List Field}, fieldsOk T fields = true → ∀ f ∈ fields, (T.get f.type).isSome = true
  | [], _, f, hf => by simp at hf
  | g :: fs, h, f, hf => by
    simp only [fieldsOk] at h
    split at h
    · rename_i i hi
      rcases List.mem_cons.1 hf with rfl | hf
      · simp [hi]
      · exact fieldsOk_eq h f hf
    · cases h

/-- A struct's literal. -/
theorem g_build (T : Tab P) {t : TypeId} {i : TyI} {fields : Array Field} {parts : Array (Nat × Operand)} {vs : List (Nat × Value)} {cs : List Value} (ht : T.get t = some i) (hi : i.desc = .struct fields) (hf : fieldsOk T fields.toList = true)
    (hp : E.evps parts.toList = some vs) (hc : fillL (placeF T fields.toList) i.zero vs = some cs) : Gives P n E (.build t parts) ty (.agg cs.toArray) :=
  .mk <| fun dst pos after g act ha w => by
    obtain ⟨ti, z, g1, g2, _, g4, g5⟩ := T.inf ht
    have hu := T.und ht
    rw [hi] at hu
    have hpl := run_places (T := T) (w := w) fields.toList (fieldsOk_eq hf)
    have hfill := fillL_eq (place' := fun j => ((fields.toList.map fun f => (f.offset, ((T.get f.type).map (·.size)).getD 0)).toArray)[j]?) (fun j r hj => by
      unfold placeF at hj
      split at hj
      · rename_i f hfj
        split at hj
        · rename_i ti' hti
          cases hj
          have hfj' : fields[j]? = some f := by simpa using hfj
          simp [hfj', hti]
        · cases hj
      · cases hj) hc
    have hparts : (parts.map fun (x : Nat × Operand) => (x.1, act.eval x.2)).toList = vs := by
      rw [Array.toList_map]; exact ha.evalps hp
    simp only [execOp, Instr.build, Sem.run_bind, zeroValue, typeInfo, program, Sem.run, g1, g4, Sem.run_pure, Result.andThen_ok, run_underlying hu]
    rw [Array.mapM_eq_mapM_toList, Sem.run_map, hpl]
    simp only [Result.andThen_ok, hparts, g5]
    rw [hfill]
    rfl
theorem xl_build (T : Tab P) {t : TypeId} {i : TyI} {fields : Array Field} {parts : Array (Nat × Operand)} {vs : List (Nat × Value)} {cs : List Value} (ht : T.get t = some i) (hi : i.desc = .struct fields) (hf : fieldsOk T fields.toList = true)
    (hp : E.evps parts.toList = some vs) (hc : fillL (placeF T fields.toList) i.zero vs = some cs) (hn : Nat.blt d n.m = true)
    (h : XL P ops n Q ((d, .agg cs.toArray) :: E) L w) : XL P ops n Q E (⟨some d, .build t parts, ty, pos, after, none⟩ :: L) w :=
  xl_g (g_build T ht hi hf hp hc) hn h

/-- What lies in memory behind a slice's literal. -/
theorem xl_buildSlice (T : Tab P) (hw : St w0 M w H) {t e : TypeId} {i ie : TyI} {len : Nat} {parts : Array (Nat × Operand)} {vs : List (Nat × Value)} {zs cs : List Value} (ht : T.get t = some i) (hi : i.desc = .slice e) (he : T.get e = some ie)
    (hp : E.evps parts.toList = some vs) (hz : zerosL len ie.zero = some zs) (hc : fillL (placeS ie.size) zs vs = some cs) (hsm : Nat.ble (len * ie.size) 16777216 = true) (hpos : Nat.blt 0 (len * ie.size) = true) (hze : Nat.beq ie.zero.length ie.size = true) (hn : Nat.blt d n.m = true)
    (h : ∀ b w', St w0 M w' (blk b cs e :: H) → XL P ops n Q ((d, .slice (some ⟨b, 0, none⟩) len len) :: E) L w') : XL P ops n Q E (⟨some d, .buildSlice t len parts, ty, pos, after, none⟩ :: L) w :=
  xl_step_w rfl rfl hn (fun act ha => by
    obtain ⟨ti, z, g1, g2, _, g4, g5⟩ := T.inf he
    have hu := T.und ht
    rw [hi] at hu
    have hparts : (parts.map fun (x : Nat × Operand) => (x.1, act.eval x.2)).toList = vs := by
      rw [Array.toList_map]; exact ha.evalps hp
    have hpl : ∀ j r, placeS ie.size j = some r → (fun i => some (i * ti.size, ti.size)) j = some r := fun j r hj => by
      rw [g2]; exact hj
    have hfill := fillL_eq hpl hc
    have hzz : ((Array.range (len * ti.size)).map (z.cells[· % z.cells.size]!)) = zs.toArray := by
      rw [g2, g5]
      have hl : ie.zero.length = ie.size := Nat.eq_of_beq_eq_true hze
      rw [← hl]
      apply Array.ext'
      rw [Array.toList_map, Array.toList_range]
      exact zerosL_eq hz
    have hrun := run_buildSlice w t e len (parts.map fun (x : Nat × Operand) => (x.1, act.eval x.2)) cs.toArray ti z hu g1 g4 (by rw [g2]; have := Nat.le_of_ble_eq_true hsm; omega) (by rw [g2]; have := blt_lt hpos; omega) (by
      rw [hzz, hparts]; exact hfill)
    refine ⟨_, _, ?_, h w.heap.size _ hw.allocC⟩
    simp only [execOp, Sem.run_bind, hrun, Result.andThen_ok, Sem.run_pure])

/-! ### append -/
theorem St.row_nil (hw : St w0 M w H) (e : TypeId) (sz : Nat) : St w0 M w (row none 0 e sz 0 [] :: H) :=
  hw.new (Turns.refl _ w) (World.ownsRow_nil w 0 e sz) (fun k hk => by
    have hk' : (Value.slice none 0 0).ownBlock = some k := hk
    simp [Value.ownBlock] at hk')
/-- A block is a row. -/
theorem St.row_of_blk {b e sz m : Nat} {cs : List Value} (hw : St w0 M w (blk b cs e :: H)) (hl : cs.length = m * sz) (hm : m ≤ maxLen) : St w0 M w (row (some ⟨b, 0, none⟩) m e sz m cs :: H) := by
  have hb : w.heap[b]? = some (.cells cs.toArray e (0, 0)) := hw.head
  refine hw.turn rfl (Turns.refl _ w) ?_ (fun k hk => .inl ?_)
  · exact ⟨hl, .inr ⟨b, m, cs.toArray, rfl, Nat.zero_le _, hb, Nat.le_refl _, hm, by simp [hl], by simp [← hl]⟩⟩
  · have hk' : (Value.slice (some ⟨b, 0, none⟩) m m).ownBlock = some k := hk
    simp [Value.ownBlock] at hk'
    exact hk'.symm

/-- append: the row is the i-th chunk; what is appended are cells that are known. -/
theorem xl_append_cells {i : Nat} (T : Tab P) (hw : St w0 M w H) {s x : Operand} {t e : TypeId} {ti : TyI} {ud : TypeDesc} {us ub : Nat} {uz : List Value} {ao : Option Addr} {len cap sz : Nat} {xs : List Value} {ad : Addr} {m c : Nat} {news : List Value}
    (hs : E.ev s = some (.slice ao len cap)) (hp : Sx.pick H i = some (row ao cap e sz len xs, H')) (hx : E.ev x = some (.slice (some ad) m c)) (ht : T.get t = some ti) (hti : ti.desc = .slice e) (he : T.get e = some ⟨ud, us, ub, uz⟩) (hsz : Nat.beq us sz = true) (hpos : Nat.blt 0 sz = true) (hzl : Nat.beq uz.length sz = true)
    (hn : Nat.blt d n.m = true) (hl : news.length = m * sz) (hnews : ∀ j u, news[j]? = some u → w.cell? (ad.add j) = some u) (h1 : ∀ u ∈ news, u.oneCell' = true)
    (hbytes : (len + m) * ub ≤ 140737488355328) (hmax : len + m ≤ maxLen)
    (h : ∀ ao' cap' w', St w0 M w' (row ao' cap' e sz (len + m) (xs ++ news) :: H') → len + m ≤ cap' → (m ≠ 0 ∨ len ≠ 0 → ∃ g, ao' = some ⟨g, 0, none⟩) → XL P ops n Q ((d, .slice ao' (len + m) cap') :: E) L w') :
    XL P ops n Q E (⟨some d, .call { callee := .builtin .append, args := #[s, x], argTypes := #[t, t] }, ty, pos, after, none⟩ :: L) w :=
  xl_step_w rfl rfl hn (fun act ha => by
    obtain ⟨tinf, z, g1, g2, g3, g4, g5⟩ := T.inf he
    have hu := T.und ht
    rw [hti] at hu
    have hw' := hw.pick i hp
    have hown : w.ownsRow 0 e sz (.slice ao len cap) len xs := hw'.head
    have hsz' : us = sz := Nat.eq_of_beq_eq_true hsz
    obtain ⟨v', w', hr, h2, h3, h4⟩ := run_append_own (P := P) w 0 t ty e tinf z sz tinf.bytes hu g1 g4 (by rw [g2, hsz']) rfl (by rw [g5]; simpa using Nat.eq_of_beq_eq_true hzl) (blt_lt hpos) _ len xs hown ad m c news hl hnews h1 hmax (by rw [g3]; exact hbytes) (Nat.zero_le _)
    have hform : ∃ ao' cap', v' = .slice ao' (len + m) cap' ∧ len + m ≤ cap' ∧ (m ≠ 0 ∨ len ≠ 0 → ∃ g, ao' = some ⟨g, 0, none⟩) := by
      rcases h2.2 with ⟨hv, hz⟩ | ⟨g, c', cur, hv, _, _, hle, _⟩
      · refine ⟨none, 0, by rw [hv, hz], by omega, fun hh => ?_⟩
        omega
      · exact ⟨some ⟨g, 0, none⟩, c', hv, hle, fun _ => ⟨g, rfl⟩⟩
    obtain ⟨ao', cap', rfl, hcap, hsome⟩ := hform
    refine ⟨_, w', ?_, h ao' cap' w' (hw'.turn rfl ((Turns.grown h3).mono (fun k hk => hk)) h2 ?_) hcap hsome⟩
    · simp only [execOp, resolve, invoke, builtin, Sem.run_bind, Sem.run_pure, Result.andThen_ok, List.map_toArray, List.map_cons, List.map_nil, ha.eval hs, ha.eval hx, hr]
    · intro k hk
      have hk' : (Value.slice ao' (len + m) cap').ownBlock = some k := hk
      by_cases ho : (Value.slice ao len cap).ownBlock = some k
      · exact .inl ho
      · right
        have hlt := (h2.lt k hk').2
        refine ⟨?_, hlt⟩
        have hsize : tinf.size = sz := by rw [g2, hsz']
        have hzs : z.cells.size = sz := by rw [g5]; simpa using Nat.eq_of_beq_eq_true hzl
        rcases hown.2 with ⟨hv0, hl0⟩ | ⟨g, c0, cur, hv0, _, hg, hle, hcm, hcs, htake⟩
        · -- nil: the row lies wherever we say
          have hown' : w.ownsRow w.heap.size e sz (.slice ao len cap) len xs := ⟨hown.1, .inl ⟨hv0, hl0⟩⟩
          obtain ⟨v2, w2, hr2, k2, _, _⟩ := run_append_own (P := P) w w.heap.size t ty e tinf z sz tinf.bytes hu g1 g4 hsize rfl hzs (blt_lt hpos) _ len xs hown' ad m c news hl hnews h1 hmax (by rw [g3]; exact hbytes) (Nat.le_refl _)
          rw [hr] at hr2
          cases hr2
          exact (k2.lt k hk').1
        · simp only [Value.slice.injEq] at hv0
          obtain ⟨rfl, _, rfl⟩ := hv0
          by_cases hroom : len + m ≤ cap
          · have hfit : len * tinf.size + news.length ≤ cur.size := by rw [hl, hcs, hsize, ← Nat.add_mul]; exact Nat.mul_le_mul_right _ hroom
            have hr2 := run_append_room (P := P) w t ty e tinf hu g1 g len cap cur hg ad m c news (by rw [hl, hsize]) hnews h1 hroom hfit
            rw [hr] at hr2
            simp only [Result.ok.injEq, Value.slice.injEq] at hr2
            obtain ⟨⟨ha', _, _⟩, _⟩ := hr2
            subst ha'
            exact absurd hk' (by simpa [Value.ownBlock] using ho)
          · have holds : ∀ j u, xs[j]? = some u → w.cell? ((⟨g, 0, none⟩ : Addr).add j) = some u := hown.cells (g := g) rfl
            have hmax' : len + m ≤ 9223372036854775807 := by simp only [maxLen] at hmax; omega
            have hr2 := run_append_grow (P := P) w t ty e tinf z hu g1 g4 ⟨g, 0, none⟩ len cap xs (by rw [hown.1, hsize]) holds ad m c news (by rw [hl, hsize]) hnews (by omega) (by omega) (growslice_fits (by omega) (by rw [g3]; exact hbytes))
            rw [hr] at hr2
            simp only [Result.ok.injEq, Value.slice.injEq] at hr2
            obtain ⟨⟨ha', _, _⟩, _⟩ := hr2
            subst ha'
            simp only [Value.ownBlock, Option.some.injEq] at hk'
            omega)

/-- append of what a block holds (the elements of a call). -/
theorem xl_append {i j : Nat} (T : Tab P) (hw : St w0 M w H) {s x : Operand} {t e eb : TypeId} {ti : TyI} {ud : TypeDesc} {us ub : Nat} {uz : List Value} {ao : Option Addr} {len cap sz : Nat} {xs : List Value} {b m c : Nat} {news : List Value} {H'' : List Chunk}
    (hs : E.ev s = some (.slice ao len cap)) (hx : E.ev x = some (.slice (some ⟨b, 0, none⟩) m c)) (hpb : Sx.pick H j = some (blk b news eb, H'')) (hp : Sx.pick H'' i = some (row ao cap e sz len xs, H')) (ht : T.get t = some ti) (hti : ti.desc = .slice e) (he : T.get e = some ⟨ud, us, ub, uz⟩) (hsz : Nat.beq us sz = true) (hpos : Nat.blt 0 sz = true) (hzl : Nat.beq uz.length sz = true)
    (hn : Nat.blt d n.m = true) (hl : Nat.beq news.length (m * sz) = true) (h1 : oneC news = true)
    (hbytes : (len + m) * ub ≤ 140737488355328) (hmax : len + m ≤ maxLen)
    (h : ∀ ao' cap' w', St w0 M w' (row ao' cap' e sz (len + m) (xs ++ news) :: H') → len + m ≤ cap' → (m ≠ 0 ∨ len ≠ 0 → ∃ g, ao' = some ⟨g, 0, none⟩) → XL P ops n Q ((d, .slice ao' (len + m) cap') :: E) L w') :
    XL P ops n Q E (⟨some d, .call { callee := .builtin .append, args := #[s, x], argTypes := #[t, t] }, ty, pos, after, none⟩ :: L) w :=
  xl_append_cells T (hw.pick j hpb).drop hs hp hx ht hti he hsz hpos hzl hn (Nat.eq_of_beq_eq_true hl) (fun k u hk => by
    rw [addr_add, Nat.zero_add, blk_cell (hw.pick j hpb).head, hk]) (oneC_eq h1) hbytes hmax h

/-- A row, shorter. -/
theorem St.row_shrink {ao : Option Addr} {cap e sz len m : Nat} {xs : List Value} (hw : St w0 M w (row ao cap e sz len xs :: H)) (hm : m ≤ len) : St w0 M w (row ao cap e sz m (xs.take (m * sz)) :: H) := by
  have hok : w.ownsRow 0 e sz (.slice ao len cap) len xs := hw.head
  refine hw.turn rfl (Turns.refl _ w) ?_ (fun k hk => .inl (by cases ao <;> exact hk))
  obtain ⟨h1, h2⟩ := hok
  have hle : m * sz ≤ len * sz := Nat.mul_le_mul_right _ hm
  refine ⟨by rw [List.length_take, h1, Nat.min_eq_left hle], ?_⟩
  rcases h2 with ⟨hv, hz⟩ | ⟨g, c, cur, hv, hb, hg, hn, hc, hs, ht⟩
  · subst hz
    have hm0 : m = 0 := by omega
    subst hm0
    exact .inl ⟨hv, rfl⟩
  · simp only [Value.slice.injEq] at hv
    obtain ⟨rfl, _, rfl⟩ := hv
    refine .inr ⟨g, cap, cur, rfl, hb, hg, by omega, hc, hs, ?_⟩
    rw [← ht, List.take_take, Nat.min_eq_left hle]
theorem St.row_some {ao : Option Addr} {cap e sz len : Nat} {xs : List Value} (hw : St w0 M w (row ao cap e sz len xs :: H)) (hl : 0 < len) : ∃ g, ao = some ⟨g, 0, none⟩ := by
  have hok : w.ownsRow 0 e sz (.slice ao len cap) len xs := hw.head
  rcases hok.2 with ⟨_, hz⟩ | ⟨g, _, _, hv, _⟩
  · omega
  · simp only [Value.slice.injEq] at hv; exact ⟨g, hv.1⟩
theorem St.rng_some {ao : Option Addr} {cs : List Value} (hw : St w0 M w (rng ao cs :: H)) (hl : 0 < cs.length) : ∃ a, ao = some a := by
  have hok : (rng ao cs).ok w := hw.head
  obtain ⟨a, ha, _⟩ := hok 0 cs[0] (by simp [hl])
  exact ⟨a, ha⟩
theorem St.row_cap {ao : Option Addr} {cap e sz len : Nat} {xs : List Value} (hw : St w0 M w (row ao cap e sz len xs :: H)) : len ≤ cap := by
  have hok : w.ownsRow 0 e sz (.slice ao len cap) len xs := hw.head
  rcases hok.2 with ⟨_, hz⟩ | ⟨g, c', cur, hv, _, _, hle, _⟩
  · omega
  · simp only [Value.slice.injEq] at hv; obtain ⟨_, _, rfl⟩ := hv; exact hle
theorem sliceV_zero {ao : Option Addr} {cap sz r : Nat} : sliceV ao cap sz 0 r = .slice ao r cap := by
  unfold sliceV
  have h : ao.map (·.add (0 * sz)) = ao := by
    cases ao with
    | none => rfl
    | some a => simp [Addr.add]
  rw [h]
  split <;> simp

/-- append of what another row holds, or a part of it. -/
theorem xl_append_row {i j : Nat} (T : Tab P) (hw : St w0 M w H) {s x : Operand} {t e e2 : TypeId} {ti : TyI} {ud : TypeDesc} {us ub : Nat} {uz : List Value} {ao as : Option Addr} {len cap sz m c c2 n2 : Nat} {xs xs2 : List Value}
    (hs : E.ev s = some (.slice ao len cap)) (hx : E.ev x = some (.slice as m c)) (hp : Sx.pick H i = some (row ao cap e sz len xs, H')) (hp2 : nthC H' j = some (row as c2 e2 sz n2 xs2)) (ht : T.get t = some ti) (hti : ti.desc = .slice e) (he : T.get e = some ⟨ud, us, ub, uz⟩) (hsz : Nat.beq us sz = true) (hpos : Nat.blt 0 sz = true) (hzl : Nat.beq uz.length sz = true)
    (hn : Nat.blt d n.m = true) (hm : m ≤ n2) (h1 : ∀ u ∈ xs2, u.oneCell' = true)
    (hbytes : (len + m) * ub ≤ 140737488355328) (hmax : len + m ≤ maxLen)
    (h : ∀ ao' cap' w', St w0 M w' (row ao' cap' e sz (len + m) (xs ++ xs2.take (m * sz)) :: H') → len + m ≤ cap' → XL P ops n Q ((d, .slice ao' (len + m) cap') :: E) L w') :
    XL P ops n Q E (⟨some d, .call { callee := .builtin .append, args := #[s, x], argTypes := #[t, t] }, ty, pos, after, none⟩ :: L) w := by
  have hw2 := hw.pick i hp
  have hsrc : w.ownsRow 0 e2 sz (.slice as n2 c2) n2 xs2 := hw2.sep.2.2.2.mem _ (nthC_mem hp2)
  have hdst : w.ownsRow 0 e sz (.slice ao len cap) len xs := hw2.head
  cases as with
  | none =>
    -- nothing is appended
    have hn2 : n2 = 0 := by
      rcases hsrc.2 with ⟨_, hz⟩ | ⟨g, _, _, hv, _⟩
      · exact hz
      · simp at hv
    subst hn2
    obtain rfl : m = 0 := by omega
    have hlen : len ≤ cap := by
      rcases hdst.2 with ⟨hv, hz⟩ | ⟨g, c', cur, hv, _, _, hle, _⟩
      · omega
      · simp only [Value.slice.injEq] at hv; obtain ⟨_, _, rfl⟩ := hv; exact hle
    refine xl_step rfl rfl hn (v := .slice ao len cap) (fun act ha => ?_) ?_
    · obtain ⟨tinf, z, g1, g2, g3, g4, g5⟩ := T.inf he
      have hu := T.und ht
      rw [hti] at hu
      simp only [execOp, resolve, invoke, builtin, Sem.run_bind, Sem.run_pure, Result.andThen_ok, List.map_toArray, List.map_cons, List.map_nil, ha.eval hs, ha.eval hx]
      cases ao <;> simp [Builtin.append_, run_underlying hu, sizeOf, typeInfo, program, Sem.run, g1, Builtin.lenOf, hlen, Builtin.firstCells, storeCells]
    · have := h ao cap w (by simpa using hw2) (by simpa using hlen)
      simpa using this
  | some a =>
    obtain ⟨g, rfl⟩ : ∃ g, a = ⟨g, 0, none⟩ := by
      rcases hsrc.2 with ⟨hv, _⟩ | ⟨g, _, _, hv, _⟩
      · simp at hv
      · simp only [Value.slice.injEq, Option.some.injEq] at hv; exact ⟨g, hv.1⟩
    have hle : m * sz ≤ n2 * sz := Nat.mul_le_mul_right _ hm
    refine xl_append_cells T hw hs hp hx ht hti he hsz hpos hzl hn (by rw [List.length_take, hsrc.1]; omega) (fun k u hk => ?_) (fun u hu => h1 u (List.mem_of_mem_take hu)) hbytes hmax (fun ao' cap' w' hw' hc _ => h ao' cap' w' hw' hc)
    rw [addr_add, Nat.zero_add]
    rw [List.getElem?_take] at hk
    split at hk
    · exact row_cell (cap := c2) (e := e2) (sz := sz) (m := n2) (xs := xs2) hsrc k u hk
    · cases hk

/-! ### Calls -/
/-- What a list of chunks owns and may write. -/
def ownsW : List Chunk → Nat → Prop
  | [], _ => False
  | c :: H, k => (c.wr = true ∧ c.own k) ∨ ownsW H k
/-- How a call ends: it returns 'val x', memory then has the chunks 'out x', and 'Φ x'. -/
def Ret {α : Type} (w : World) (Hf : List Chunk) (val : α → Value) (out : α → List Chunk) (Φ : α → Prop) : Ending → World → Prop :=
  fun e w' => ∃ x, e = .returned (val x) ∧ St w (ownsW Hf) w' (out x) ∧ Φ x
/-- A function with a body of its own. -/
def Called (P : Program) (f : FuncId) : Prop := ∃ fn c, P.funcs[f]? = some fn ∧ fn.body = some c ∧ (fn.name == "runtime.NumGoroutine") = false
/-- A contract: where memory has the chunks Hf. -/
structure FnC {α : Type} (P : Program) (f : FuncId) (args : List Value) (A B : List Chunk) (val : α → Value) (out : α → List Chunk) (Φ : α → Prop) : Prop where
  called : Called P f
  run : ∀ w, St w (ownsW A) w (A ++ B) → Calls P f args.toArray w (Ret w A val out Φ)

/-- The first chunks out of a list, by places. -/
def picks : List Nat → List Chunk → Option (List Chunk × List Chunk)
  | [], H => some ([], H)
  | i :: is, H => match Sx.pick H i with
    | some (c, H') => (match picks is H' with
      | some (cs, R) => some (c :: cs, R)
      | none => none)
    | none => none

theorem Sep.append {w0 w : World} {M : Nat → Prop} : ∀ {A B : List Chunk}, Sep w0 M w (A ++ B) ↔ Sep w0 M w A ∧ Sep w0 M w B ∧ ∀ c ∈ A, ∀ d ∈ B, c.Apart d
  | [], B => by simp [Sep]
  | c :: A, B => by
    have ih := Sep.append (w0 := w0) (w := w) (M := M) (A := A) (B := B)
    simp only [List.cons_append, Sep]
    constructor
    · rintro ⟨h1, h2, h3, h4⟩
      obtain ⟨i1, i2, i3⟩ := ih.1 h4
      refine ⟨⟨h1, h2, fun d hd => h3 d (by simp [hd]), i1⟩, i2, fun x hx d hd => ?_⟩
      rcases List.mem_cons.1 hx with rfl | hx
      · exact h3 d (by simp [hd])
      · exact i3 x hx d hd
    · rintro ⟨⟨h1, h2, h3, h4⟩, i2, i3⟩
      refine ⟨h1, h2, fun d hd => ?_, ih.2 ⟨h4, i2, fun x hx => i3 x (by simp [hx])⟩⟩
      rcases List.mem_append.1 hd with hd | hd
      · exact h3 d hd
      · exact i3 c (by simp) d hd

theorem picks_mem : ∀ {is : List Nat} {H cs R : List Chunk}, picks is H = some (cs, R) → ∀ x ∈ cs ++ R, x ∈ H
  | [], H, cs, R, h, x, hx => by simp only [picks, Option.some.injEq, Prod.mk.injEq] at h; obtain ⟨rfl, rfl⟩ := h; simpa using hx
  | i :: is, H, cs, R, h, x, hx => by
    simp only [picks] at h
    split at h
    · rename_i c H' hp
      split at h
      · rename_i cs' R' hps
        cases h
        obtain ⟨m1, m2⟩ := pick_mem hp
        simp only [List.cons_append, List.mem_cons] at hx
        rcases hx with rfl | hx
        · exact m1
        · exact m2 x (picks_mem hps x hx)
      · cases h
    · cases h

theorem picks_sep {w0 w : World} {M : Nat → Prop} : ∀ {is : List Nat} {H cs R : List Chunk}, picks is H = some (cs, R) → Sep w0 M w H → Sep w0 M w (cs ++ R)
  | [], H, cs, R, h, hs => by simp only [picks, Option.some.injEq, Prod.mk.injEq] at h; obtain ⟨rfl, rfl⟩ := h; exact hs
  | i :: is, H, cs, R, h, hs => by
    simp only [picks] at h
    split at h
    · rename_i c H' hp
      split at h
      · rename_i cs' R' hps
        cases h
        obtain ⟨g1, g2, g3, g4⟩ := hs.pick hp
        have ih := picks_sep hps g4
        refine ⟨g1, g2, fun d hd => ?_, ih⟩
        have hmem : ∀ x, x ∈ cs' ++ R → x ∈ H' := by
          intro x hx
          exact picks_mem hps x hx
        exact g3 d (hmem d hd)
      · cases h
    · cases h

/-- Some of the chunks, in another order. -/
theorem St.sub {w0 w : World} {M : Nat → Prop} {H A R : List Chunk} (h : St w0 M w H) (is : List Nat) (hp : picks is H = some (A, R)) : St w0 M w A :=
  ⟨h.base, (Sep.append.1 (picks_sep hp h.sep)).1⟩
theorem ownsW_mem : ∀ {H : List Chunk} {k : Nat}, ownsW H k ↔ ∃ c ∈ H, c.wr = true ∧ c.own k
  | [], k => by simp [ownsW]
  | c :: H, k => by simp [ownsW, ownsW_mem (H := H) (k := k)]

/-- To the callee: memory as it is now, with its own chunks alone. -/
theorem Sep.local {w0 w : World} {M : Nat → Prop} : ∀ {A : List Chunk} (N : Nat → Prop), Sep w0 M w A → (∀ c ∈ A, c.wr = true → ∀ k, c.own k → N k) → Sep w N w A
  | [], _, _, _ => trivial
  | c :: A, N, h, hN => by
    obtain ⟨h1, h2, h3, h4⟩ := h
    exact ⟨h1, fun k hk => ⟨(h2 k hk).1, fun hw => .inl (hN c (by simp) hw k hk)⟩, h3, Sep.local N h4 (fun d hd => hN d (by simp [hd]))⟩

/-- Back from the callee. -/
theorem Sep.back {w0 w w' : World} {M N : Nat → Prop} (hb : w0.heap.size ≤ w.heap.size) (hN : ∀ k, N k → M k ∨ w0.heap.size ≤ k) : ∀ {A : List Chunk}, Sep w N w' A → Sep w0 M w' A
  | [], _ => trivial
  | c :: A, h => by
    obtain ⟨h1, h2, h3, h4⟩ := h
    refine ⟨h1, fun k hk => ⟨(h2 k hk).1, fun hw => ?_⟩, h3, h4.back hb hN⟩
    rcases (h2 k hk).2 hw with h5 | h5
    · exact hN k h5
    · exact .inr (Nat.le_trans hb h5)
/-- What the callee's chunks own: old ones of its own, or new ones; or, if they are read alone, anything that is. -/
theorem St.call {w0 w w' : World} {M : Nat → Prop} {A A' R : List Chunk} (h : Sep w0 M w (A ++ R)) (hbase : Base w0 M w) (h' : St w (ownsW A) w' A') (hro : ∀ c ∈ A', c.wr = false → ∀ k, c.own k → (∃ a ∈ A, a.wr = false ∧ a.own k) ∨ w.heap.size ≤ k) : St w0 M w' (A' ++ R) := by
  obtain ⟨hA, hR, hAR⟩ := Sep.append.1 h
  obtain ⟨hb', hA'⟩ := h'
  have hM : ∀ k, ownsW A k → M k ∨ w0.heap.size ≤ k := by
    intro k hk
    obtain ⟨c, hc, hw, ho⟩ := ownsW_mem.1 hk
    have : ∀ {A : List Chunk}, Sep w0 M w A → c ∈ A → M k ∨ w0.heap.size ≤ k := by
      intro A
      induction A with
      | nil => intro _ hc; simp at hc
      | cons x A ih =>
        intro hs hc
        rcases List.mem_cons.1 hc with rfl | hc
        · exact (hs.2.1 k ho).2 hw
        · exact ih hs.2.2.2 hc
    exact this hA hc
  have hturn : Turns (ownsW A) w w' := ⟨hb'.os, hb'.tape, hb'.output, hb'.size, hb'.old⟩
  refine ⟨hbase.turns hturn hM, Sep.append.2 ⟨hA'.back hbase.size hM, hR.keep hturn (fun d hd k hk hdk => ?_), fun c hc d hd hw k hck hdk => ?_⟩⟩
  · obtain ⟨x, hx, hxw, hxo⟩ := ownsW_mem.1 hk
    exact hAR x hx d hd (.inl hxw) k hxo hdk
  · have hdlt := hR.dom d hd k hdk
    have hdom : ∀ {A' : List Chunk}, Sep w (ownsW A) w' A' → c ∈ A' → c.wr = true → ownsW A k ∨ w.heap.size ≤ k := by
      intro A'
      induction A' with
      | nil => intro _ hc; simp at hc
      | cons x A' ih =>
        intro hs hc hcw
        rcases List.mem_cons.1 hc with rfl | hc
        · exact (hs.2.1 k hck).2 hcw
        · exact ih hs.2.2.2 hc hcw
    cases hcw : c.wr with
    | true =>
      rcases hdom hA' hc hcw with h1 | h1
      · obtain ⟨x, hx, hxw, hxo⟩ := ownsW_mem.1 h1
        exact hAR x hx d hd (.inl hxw) k hxo hdk
      · omega
    | false =>
      rcases hro c hc hcw k hck with ⟨a, ha, haw, hao⟩ | h1
      · have hdw : d.wr = true := by rcases hw with h2 | h2; rw [hcw] at h2; cases h2; exact h2
        exact hAR a ha d hd (.inr hdw) k hao hdk
      · omega


/-- What is read alone may be lent out of what the caller has. -/
def Lends (R : List Chunk) (c : Chunk) : Prop := c.wr = false ∧ (∀ k, c.own k → ∃ x ∈ R, x.own k) ∧ ∀ w, (∀ x ∈ R, x.ok w) → c.ok w
def LendsAll (R : List Chunk) : List Chunk → Prop
  | [] => True
  | c :: A => Lends R c ∧ LendsAll R A
theorem LendsAll.mem {R : List Chunk} : ∀ {A : List Chunk}, LendsAll R A → ∀ c ∈ A, Lends R c
  | [], _, c, hc => by simp at hc
  | x :: A, h, c, hc => by
    rcases List.mem_cons.1 hc with rfl | hc
    · exact h.1
    · exact h.2.mem c hc
def allW : List Chunk → Bool
  | [] => true
  | c :: A => match c.wr with
    | true => allW A
    | false => false
theorem allW_mem : ∀ {A : List Chunk}, allW A = true → ∀ c ∈ A, c.wr = true
  | [], _, c, hc => by simp at hc
  | x :: A, h, c, hc => by
    simp only [allW] at h
    split at h
    · rename_i hx
      rcases List.mem_cons.1 hc with rfl | hc
      · exact hx
      · exact allW_mem h c hc
    · cases h

theorem Sep.lend {w0 w : World} {M N : Nat → Prop} {A R : List Chunk} : ∀ {B : List Chunk}, Sep w0 M w (A ++ R) → LendsAll R B → Sep w N w B
  | [], _, _ => trivial
  | c :: B, h, hl => by
    obtain ⟨⟨hwr, hown, hok⟩, hl'⟩ := hl
    obtain ⟨hA, hR, hAR⟩ := Sep.append.1 h
    refine ⟨hok w (fun x hx => hR.mem x hx), fun k hk => ⟨(by obtain ⟨x, hx, hxo⟩ := hown k hk; exact hR.dom x hx k hxo), fun hw => (by rw [hwr] at hw; cases hw)⟩, fun d hd hw => ?_, h.lend hl'⟩
    obtain ⟨hdw, _⟩ := hl'.mem d hd
    rcases hw with h1 | h1
    · rw [hwr] at h1; cases h1
    · rw [hdw] at h1; cases h1

theorem ownsW_lend {A B R : List Chunk} (hl : LendsAll R B) (k : Nat) : ownsW (A ++ B) k ↔ ownsW A k := by
  rw [ownsW_mem, ownsW_mem]
  constructor
  · rintro ⟨c, hc, hw, ho⟩
    rcases List.mem_append.1 hc with hc | hc
    · exact ⟨c, hc, hw, ho⟩
    · rw [(hl.mem c hc).1] at hw; cases hw
  · rintro ⟨c, hc, hw, ho⟩
    exact ⟨c, by simp [hc], hw, ho⟩

/-- A call, by its contract. -/
theorem St.calls {α : Type} {w0 w : World} {M : Nat → Prop} {H A B R : List Chunk} {is : List Nat} {f : FuncId} {args : List Value} {val : α → Value} {out : α → List Chunk} {Φ : α → Prop} (hw : St w0 M w H) (hs : FnC P f args A B val out Φ) (hp : picks is H = some (A, R)) (hl : LendsAll R B) (ho : ∀ x, allW (out x) = true) :
    Calls P f args.toArray w fun e w' => ∃ x, e = .returned (val x) ∧ St w0 M w' (out x ++ R) ∧ Φ x := by
  have hsep := picks_sep hp hw.sep
  obtain ⟨hA, hR, hAR⟩ := Sep.append.1 hsep
  have hpre : St w (ownsW A) w (A ++ B) := by
    refine ⟨Base.refl _ _, Sep.append.2 ⟨hA.local _ (fun c hc hcw k hk => ownsW_mem.2 ⟨c, hc, hcw, hk⟩), Sep.lend hsep hl, fun c hc d hd hwr k hck hdk => ?_⟩⟩
    obtain ⟨hdw, hown, _⟩ := hl.mem d hd
    obtain ⟨x, hx, hxo⟩ := hown k hdk
    have hcw : c.wr = true := by rcases hwr with h1 | h1; exact h1; rw [hdw] at h1; cases h1
    exact hAR c hc x hx (.inl hcw) k hck hxo
  refine (hs.run w hpre).mono fun e w' hret => ?_
  obtain ⟨x, he, hst, hphi⟩ := hret
  exact ⟨x, he, St.call hsep hw.base hst (fun c hc hcw => by rw [allW_mem (ho x) c hc] at hcw; cases hcw), hphi⟩

theorem xl_call {α : Type} (is : List Nat) {f : FuncId} {vs : List Value} {A B R : List Chunk} {val : α → Value} {out : α → List Chunk} {Φ : α → Prop} {args : Array Operand} {ts : Array TypeId} (hs : FnC P f vs A B val out Φ) (hw : St w0 M w H)
    (ha : E.evs args.toList = some vs) (hp : picks is H = some (A, R)) (hl : LendsAll R B) (ho : ∀ x, allW (out x) = true) (hn : Nat.blt d n.m = true)
    (h : ∀ x w', St w0 M w' (out x ++ R) → Φ x → XL P ops n Q ((d, val x) :: E) L w') : XL P ops n Q E (⟨some d, .call { callee := .value (.func f), args := args, argTypes := ts }, ty, pos, after, none⟩ :: L) w := by
  refine ⟨fun q act hact => ?_⟩
  refine wpList_plain rfl fun K hK => ?_
  obtain ⟨fn, c, hf, hbody, hname⟩ := hs.called
  have hname' : ¬ fn.name = "runtime.NumGoroutine" := by simpa using hname
  have hargs : args.map act.eval = vs.toArray := by
    apply Array.ext'
    rw [Array.toList_map]
    simpa using hact.evals ha
  have hrun : (execOp act.eval ⟨some d, .call { callee := .value (.func f), args := args, argTypes := ts }, ty, pos, after, none⟩).run P w = .ok (.enter f vs.toArray) w := by
    simp [execOp, resolve, invoke, callFunc, Act.eval, Deferred.ofValue, program, Sem.run, hf, hbody, hname', hargs]
  unfold Oper.wp
  rw [hrun, Oper.upon_enter]
  refine (hw.calls hs hp hl ho).mono fun e w' hret => ?_
  obtain ⟨x, rfl, hst, hphi⟩ := hret
  exact hK _ _ ((h x w' hst hphi).run q _ (hact.put hn))

/-- More chunks about. -/
theorem FnC.frame {α : Type} {f : FuncId} {args : List Value} {A B A' R : List Chunk} {val : α → Value} {out : α → List Chunk} {Φ : α → Prop} (is : List Nat) (hs : FnC P f args A B val out Φ) (hp : picks is A' = some (A, R)) (hl : LendsAll R B) (ho : ∀ x, allW (out x) = true) : FnC P f args A' [] val (fun x => out x ++ R) Φ :=
  ⟨hs.called, fun w hw => by
    rw [List.append_nil] at hw
    exact hw.calls hs hp hl ho⟩
/-- Other words for what comes out. -/
theorem FnC.map {α β : Type} {f : FuncId} {args : List Value} {A B : List Chunk} {val : α → Value} {out : α → List Chunk} {Φ : α → Prop} {val' : β → Value} {out' : β → List Chunk} {Φ' : β → Prop} (hs : FnC P f args A B val out Φ)
    (h : ∀ x, Φ x → ∃ y, val x = val' y ∧ (∃ is R, picks is (out x) = some (out' y, R)) ∧ Φ' y) : FnC P f args A B val' out' Φ' :=
  ⟨hs.called, fun w hw => (hs.run w hw).mono fun e w' hret => by
    obtain ⟨x, rfl, hst, hphi⟩ := hret
    obtain ⟨y, hv, ⟨is, R, hp⟩, hphi'⟩ := h x hphi
    exact ⟨y, by rw [hv], hst.sub is hp, hphi'⟩⟩

theorem rounds_mono {F : Fence} {nn : Nat} {Q : Exit → Act → World → Prop} {c : Code} : ∀ {m m' : Nat} {a : Act} {w : World}, m ≤ m' → Code.roundsIn F nn P c Q m a w → Code.roundsIn F nn P c Q m' a w
  | 0, _, _, _, _, h => h.elim
  | m + 1, 0, _, _, hm, _ => by omega
  | m + 1, m' + 1, a, w, hm, h => wpIn_mono h (fun e a w hq => by
    cases e with
    | normal => exact rounds_mono (Nat.le_of_succ_le_succ hm) hq
    | _ => exact hq)
theorem loop_ghost {F : Fence} {nn : Nat} {Q : Exit → Act → World → Prop} {a : Act} {w : World} {c : Code} (I : Nat → Act → World → Prop) (m0 : Nat) (h0 : I m0 a w)
    (h : ∀ m a w, I m a w → c.wpIn F nn P (Exit.then (fun a' w' => ∃ m', m' < m ∧ I m' a' w') Q) a w) : (Code.loop c).wpIn F nn P Q a w := by
  refine wpIn_loop_rounds (m0 + 1) ?_
  have key : ∀ m a w, I m a w → Code.roundsIn F nn P c Q (m + 1) a w := by
    intro m
    induction m using Nat.strongRecOn with
    | ind m ih =>
      intro a w hi
      rw [roundsIn_succ]
      refine wpIn_mono (h m a w hi) (fun e a' w' hq => ?_)
      cases e with
      | normal => obtain ⟨m', hlt, hi'⟩ := hq; exact rounds_mono hlt (ih m' hlt a' w' hi')
      | _ => exact hq
  exact key m0 a w h0
/-- A loop. -/
theorem xc_loop {α : Type} {c : Code} (Ev : α → Env) (Hv : α → List Chunk) (φ : α → Prop) (μ : α → Nat) (x0 : α) (hw : St w0 M w H) (hE : EnvSub E (Ev x0)) (hH : H = Hv x0) (hφ : φ x0)
    (round : ∀ x w, φ x → St w0 M w (Hv x) → ∀ K : Act → World → Prop, (∀ y E' w', φ y → μ y < μ x → St w0 M w' (Hv y) → EnvSub E' (Ev y) → ∀ a, EnvOk a E' n → K a w') → XC P n (Exit.then K Q) (Ev x) c w) : XC P n Q E (.loop c) w := by
  refine ⟨fun q a ha => ?_⟩
  subst hH
  refine loop_ghost (fun m a' w' => ∃ x, φ x ∧ μ x = m ∧ EnvOk a' (Ev x) n ∧ St w0 M w' (Hv x)) (μ x0) ⟨x0, hφ, rfl, ha.sub hE, hw⟩ ?_
  rintro m a' w' ⟨x, hx, rfl, ha', hw'⟩
  exact (round x w' hx hw' _ (fun y E' w'' hy hlt hst hsub a'' ha'' => ⟨μ y, hlt, y, hy, rfl, ha''.sub hsub, hst⟩)).run q.then a' ha'

/-- The end of a round. -/
theorem xq_round {α : Type} {K : Act → World → Prop} {Ev : α → Env} {Hv : α → List Chunk} {φ : α → Prop} {μ : α → Nat} {x : α} (hK : ∀ y E' w', φ y → μ y < μ x → St w0 M w' (Hv y) → EnvSub E' (Ev y) → ∀ a, EnvOk a E' n → K a w')
    (y : α) (hφ : φ y) (hμ : μ y < μ x) (hw : St w0 M w H) (hH : H = Hv y) (hE : EnvSub E (Ev y)) : XQ n (Exit.then K Q) .normal E w := by
  subst hH
  exact ⟨fun q a ha => hK y E w hφ hμ hw hE a ha⟩
end
end Go.Sx

/- Small rules for symbolic steps, the twenty-sixth part: bytes of texts, laid and appended. Program-independent. -/
import Derived.Test.YtgmegfmabkkaoaaSxP
import Derived.Lib.AppendStr
namespace Go.Sx
open Go Chunk
set_option linter.unusedSimpArgs false
set_option linter.unusedVariables false
section
variable {P : Program} {T : Tab P} {n : Cx} {E : Env} {w0 : World} {M : Nat → Prop} {H H' : List Chunk} {d : Nat} {ty : TypeId}
/-- append of a text. -/
theorem eff_appendStr {i : Nat} (T : Tab P) {s x : Operand} {t u e : TypeId} {ti ui : TyI} {ao : Option Addr} {len cap : Nat} {xs : List Value} {tx : ByteArray}
    (hs : E.ev s = some (.slice ao len cap)) (hx : E.ev x = some (.string tx)) (hp : Sx.pick H i = some (row ao cap e 1 len xs, H')) (ht : T.get t = some ti) (hti : ti.desc = .slice e) (hu : T.get u = some ui) (hui : ui.desc = .string) (he : T.get e = some ⟨.int .u8, 1, 1, [.int .u8 0]⟩)
    (hn : Nat.blt d n.m = true) (hbytes : len + tx.size ≤ 140737488355328) (hz0 : (P.info? e).bind (·.zero) = some (.int .u8 0)) :
    Eff P n w0 M H E (some d) (.call { callee := .builtin .append, args := #[s, x], argTypes := #[t, u] }) ty (fun (z : Option Addr × Nat) => len + tx.size ≤ z.2) (fun z => (d, .slice z.1 (len + tx.size) z.2) :: E) (fun z => row z.1 z.2 e 1 (len + tx.size) (xs ++ bytC tx) :: H') :=
  ⟨fun _ _ _ _ _ w hw h => xl_step_w rfl rfl hn (fun act ha => by
    obtain ⟨tinf, z, g1, g2, g3, g4, g5⟩ := T.inf he
    have hut := T.und ht
    rw [hti] at hut
    have huu := T.und hu
    rw [hui] at huu
    have hz : tinf.zero = some (.int .u8 0) := by rw [g1] at hz0; exact hz0
    have g2' : tinf.size = 1 := g2
    have g3' : tinf.bytes = 1 := g3
    have hmax : len + tx.size ≤ maxLen := by unfold maxLen; omega
    have hw' := hw.pick i hp
    have hown : w.ownsRow 0 e 1 (.slice ao len cap) len xs := hw'.head
    obtain ⟨v', w', hr, h2, h3, h4⟩ := Lib.run_append_own_string (P := P) w 0 t u ty e tinf hut huu g1 hz g2' g3' _ len xs hown tx hmax hbytes (Nat.zero_le _)
    have hform : ∃ ao' cap', v' = .slice ao' (len + tx.size) cap' ∧ len + tx.size ≤ cap' := by
      rcases h2.2 with ⟨hv, hz⟩ | ⟨g, c', cur, hv, _, _, hle, _⟩
      · exact ⟨none, 0, by rw [hv, hz], by omega⟩
      · exact ⟨some ⟨g, 0, none⟩, c', hv, hle⟩
    obtain ⟨ao', cap', rfl, hcap⟩ := hform
    refine ⟨_, w', ?_, h (ao', cap') w' hcap (hw'.turn rfl ((Turns.grown h3).mono (fun k hk => hk)) h2 ?_)⟩
    · simp only [execOp, resolve, invoke, builtin, Sem.run_bind, Sem.run_pure, Result.andThen_ok, List.map_toArray, List.map_cons, List.map_nil, ha.eval hs, ha.eval hx, hr]
    · intro k hk
      have hk' : (Value.slice ao' (len + tx.size) cap').ownBlock = some k := hk
      by_cases ho : (Value.slice ao len cap).ownBlock = some k
      · exact .inl ho
      · right
        have hlt := (h2.lt k hk').2
        refine ⟨?_, hlt⟩
        rcases hown.2 with ⟨hv0, hl0⟩ | ⟨g, c0, cur, hv0, _, hg, hle, hcm, hcs, htake⟩
        · have hown' : w.ownsRow w.heap.size e 1 (.slice ao len cap) len xs := ⟨hown.1, .inl ⟨hv0, hl0⟩⟩
          obtain ⟨v2, w2, hr2, k2, _, _⟩ := Lib.run_append_own_string (P := P) w w.heap.size t u ty e tinf hut huu g1 hz g2' g3' _ len xs hown' tx hmax hbytes (Nat.le_refl _)
          rw [hr] at hr2
          cases hr2
          exact (k2.lt k hk').1
        · simp only [Value.slice.injEq] at hv0
          obtain ⟨rfl, _, rfl⟩ := hv0
          by_cases hroom : len + tx.size ≤ cap
          · have hr2 := Lib.run_append_room_string (P := P) w t u ty e tinf hut huu g1 g2' g len cap cur hg tx hroom (by omega)
            rw [hr] at hr2
            simp only [Result.ok.injEq, Value.slice.injEq] at hr2
            obtain ⟨⟨ha', _, _⟩, _⟩ := hr2
            subst ha'
            exact absurd hk' (by simpa [Value.ownBlock] using ho)
          · have holds : ∀ j u, xs[j]? = some u → w.cell? ((⟨g, 0, none⟩ : Addr).add j) = some u := hown.cells (g := g) rfl
            have hmax' : len + tx.size ≤ 9223372036854775807 := by omega
            have hr2 := Lib.run_append_grow_string (P := P) w t u ty e tinf _ hut huu g1 hz ⟨g, 0, none⟩ len cap xs (by rw [hown.1, g2']) holds tx (by omega) (by omega) (growslice_fits (by omega) (by rw [g3']; omega))
            rw [hr] at hr2
            simp only [Result.ok.injEq, Value.slice.injEq] at hr2
            obtain ⟨⟨ha', _, _⟩, _⟩ := hr2
            subst ha'
            simp only [Value.ownBlock, Option.some.injEq] at hk'
            omega)⟩
/-- append that grows, onto a block that is marked. -/
theorem eff_appendF {i j : Nat} (T : Tab P) {s x : Operand} {t e : TypeId} {ti : TyI} {ud : TypeDesc} {us ub : Nat} {uz : List Value} {g len cap : Nat} {cs : List Value} {b m c : Nat} {news : List Value} {H'' : List Chunk}
    (hs : E.ev s = some (.slice (some ⟨g, 0, none⟩) len cap)) (hx : E.ev x = some (.slice (some ⟨b, 0, none⟩) m c)) (hpb : Sx.pick H j = some (blk b news e, H'')) (hp : Sx.pick H'' i = some (fro g cs e, H')) (ht : T.get t = some ti) (hti : ti.desc = .slice e) (he : T.get e = some ⟨ud, us, ub, uz⟩)
    (hn : Nat.blt d n.m = true) (hpos : Nat.blt 0 us = true) (hzl : Nat.beq uz.length us = true) (hl : Nat.beq news.length (m * us) = true) (hlen : Nat.ble (len * us) cs.length = true) (hgrow : cap < len + m) (hbytes : (len + m) * ub ≤ 140737488355328) (hmax : len + m ≤ maxLen) :
    Eff P n w0 M H E (some d) (.call { callee := .builtin .append, args := #[s, x], argTypes := #[t, t] }) ty (fun (z : Option Addr × Nat) => len + m ≤ z.2 ∧ True) (fun z => (d, .slice z.1 (len + m) z.2) :: E) (fun z => row z.1 z.2 e us (len + m) (cs.take (len * us) ++ news) :: H') :=
  ⟨fun _ _ _ _ _ w hw h => xl_step_w rfl rfl hn (fun act ha => by
    obtain ⟨tinf, z, g1, g2, g3, g4, g5⟩ := T.inf he
    have hut := T.und ht
    rw [hti] at hut
    have g2' : tinf.size = us := g2
    have hw1 := hw.pick j hpb
    have hw2 := hw1.drop.pick i hp
    have hnew : ∀ k u, news[k]? = some u → w.cell? ((⟨b, 0, none⟩ : Addr).add k) = some u := fun k u hk => by
      rw [addr_add, Nat.zero_add, blk_cell hw1.head, hk]
    have hold : ∀ k u, (cs.take (len * us))[k]? = some u → w.cell? ((⟨g, 0, none⟩ : Addr).add k) = some u := fun k u hk => by
      rw [List.getElem?_take] at hk
      split at hk
      · rw [addr_add, Nat.zero_add, fro_cell hw2.head, hk]
      · cases hk
    have hlen' := Nat.le_of_ble_eq_true hlen
    have hmax' : len + m ≤ 9223372036854775807 := by simp only [maxLen] at hmax; omega
    have hl' : news.length = m * us := Nat.eq_of_beq_eq_true hl
    have hzs : z.cells.size = us := by rw [g5]; simpa using Nat.eq_of_beq_eq_true hzl
    have hr := run_append_grow (P := P) w t ty e tinf z hut g1 g4 ⟨g, 0, none⟩ len cap (cs.take (len * us)) (by rw [g2', List.length_take]; omega) hold ⟨b, 0, none⟩ m c news (by rw [hl', g2']) hnew hgrow (by omega) (growslice_fits hgrow (by rw [g3]; exact hbytes))
    have hge := grownCap_ge w (len + m) cap e
    have hcm : grownCap w (len + m) cap e ≤ maxLen := grownCap_le_maxLen w (len + m) cap e hmax
    refine ⟨_, w.drew.alloc (.cells ((cs.take (len * us)).toArray ++ news.toArray ++ Builtin.zeroCells z.cells (grownCap w (len + m) cap e - (len + m))) e), ?_, h (some ⟨w.heap.size, 0, none⟩, grownCap w (len + m) cap e) _ ⟨hge, trivial⟩ (hw2.drop.new ((Turns.drew _ w).trans (Turns.alloc _ w.drew _)) ?_ (fun k hk => ?_))⟩
    · simp only [execOp, resolve, invoke, builtin, Sem.run_bind, Sem.run_pure, Result.andThen_ok, List.map_toArray, List.map_cons, List.map_nil, ha.eval hs, ha.eval hx, hr]
    · have hlt : (cs.take (len * us) ++ news).length = (len + m) * us := by rw [List.length_append, List.length_take, hl', Nat.min_eq_left hlen', Nat.add_mul]
      refine ⟨hlt, .inr ⟨w.heap.size, _, _, rfl, Nat.zero_le _, heap_alloc_new w.drew _, hge, hcm, ?_, ?_⟩⟩
      · have h5 : (cs.take (len * us)).toArray.size + news.toArray.size = (len + m) * us := by
          have := hlt
          rw [List.length_append] at this
          simpa using this
        simp only [Array.size_append, Builtin.zeroCells, Array.size_map, Array.size_range, hzs, h5, ← Nat.add_mul]
        congr 1
        omega
      · rw [Array.toList_append, Array.toList_append, List.toList_toArray, List.toList_toArray, List.take_left' hlt]
    · have hk' : (Value.slice (some ⟨w.heap.size, 0, none⟩) (len + m) (grownCap w (len + m) cap e)).ownBlock = some k := hk
      simp only [Value.ownBlock, Option.some.injEq] at hk'
      subst hk'
      exact ⟨Nat.le_refl _, by show w.heap.size < (w.heap.push _).size; simp⟩)⟩
/-- []byte of a literal: the block is marked behind its cells. -/
theorem eff_conv0 {i : Nat} (T : Tab P) {x : Operand} {t e : TypeId} {ti ei : TyI} {b len cap : Nat} {cs : List Value} (hx : E.ev x = some (.slice (some ⟨b, 0, none⟩) len cap)) (hp : Sx.pick H i = some (blk b cs e, H')) (ht : T.get t = some ti) (hti : ti.desc = .slice e) (he : T.get e = some ei) (hed : ei.desc = .int .u8) (hn : Nat.blt d n.m = true) :
    Eff P n w0 M H E (some d) (.convert t t x) ty (fun (_ : Unit) => True) (fun _ => (d, .slice (some ⟨b, 0, none⟩) len cap) :: E) (fun _ => fro b cs e :: H') :=
  ⟨fun _ _ _ _ _ w hw h => xl_step_w rfl rfl hn (fun act ha => by
    have hut := T.und ht
    rw [hti] at hut
    have hue := T.und he
    rw [hed] at hue
    have hw' := hw.pick i hp
    have hb : w.heap[b]? = some (.cells cs.toArray e (0, 0)) := hw'.head
    have hlt : b < w.heap.size := (Array.getElem?_eq_some_iff.1 hb).1
    have hsh : w.shape? b = some (e, cs.toArray.size) := by unfold World.shape?; rw [hb]
    have hnew : (w.freeze ⟨b, cs.length, none⟩ 1).heap[b]? = some (.cells cs.toArray e (cs.length, cs.length + 1)) := by
      unfold World.freeze
      rw [if_neg (by decide)]
      show (w.heap.modify b _)[b]? = _
      rw [Array.getElem?_modify, if_pos rfl, hb]
      rfl
    refine ⟨_, w.freeze ⟨b, cs.length, none⟩ 1, ?_, h () _ trivial (hw'.turn rfl ⟨rfl, rfl, rfl, ?_, fun k hk ho => ?_⟩ hnew (fun k hk => .inl hk))⟩
    · simp [execOp, ha.eval hx, convert, run_underlying hut, run_underlying hue, markStringish, hsh]
    · unfold World.freeze
      rw [if_neg (by decide)]
      show w.heap.size ≤ (w.heap.modify b _).size
      simp
    · have hne : b ≠ k := fun e => ho e.symm
      unfold World.freeze
      rw [if_neg (by decide)]
      show (w.heap.modify b _)[k]? = _
      rw [Array.getElem?_modify, if_neg hne])⟩
end
end Go.Sx

/- Small rules for symbolic steps, the ninth part: from contracts to the rows of the statements. Program-independent. -/
import Derived.Test.YtgmegfmabkkaoaaSx8
import Derived.SliceStrings
import Derived.Below
namespace Go.Sx
open Go Chunk
open Go.ChangeShapes Go.WideShapes Go.RowKit
set_option linter.unusedSimpArgs false
set_option linter.unusedVariables false

/-- What a call may read. -/
def SeenC (w : World) (c : Chunk) : Prop := c.wr = false ∧ c.ok w ∧ ∀ k, c.own k → k < w.heap.size
def Seen (w : World) : List Chunk → Prop
  | [] => True
  | c :: B => SeenC w c ∧ Seen w B
theorem Seen.mem {w : World} : ∀ {B : List Chunk}, Seen w B → ∀ c ∈ B, SeenC w c
  | [], _, c, hc => by simp at hc
  | x :: B, h, c, hc => by
    rcases List.mem_cons.1 hc with rfl | hc
    · exact h.1
    · exact h.2.mem c hc
theorem Seen.sep {w : World} {M : Nat → Prop} : ∀ {B : List Chunk}, Seen w B → Sep w M w B
  | [], _ => trivial
  | c :: B, h => by
    refine ⟨h.1.2.1, fun k hk => ⟨h.1.2.2 k hk, fun hw => by rw [h.1.1] at hw; cases hw⟩, fun d hd hw => ?_, Seen.sep h.2⟩
    rcases hw with hw | hw
    · rw [h.1.1] at hw; cases hw
    · rw [(h.2.mem d hd).1] at hw; cases hw
theorem Base.below {w w' : World} (h : Base w (ownsW []) w') : Below w.heap.size w w' :=
  ⟨h.os, h.tape, h.output, h.size, fun k hk => h.old k hk (fun hf => hf)⟩
/-- A statement's function: it answers true and leaves memory as it was. -/
theorem FnC.law {P : Program} {f : FuncId} {args : List Value} {B : List Chunk} (hs : FnC (α := Unit) P f args [] B (fun _ => .bool true) (fun _ => []) (fun _ => True)) {w : World} (hB : Seen w B) :
    Calls P f args.toArray w fun e w' => e = .returned (.bool true) ∧ Below w.heap.size w w' :=
  (hs.run w ⟨Base.refl _ _, hB.sep⟩).mono fun e w' hret => by
    obtain ⟨_, rfl, hst, _⟩ := hret
    exact ⟨rfl, hst.base.below⟩

section
variable {H : Type} {enc : TypeId × Value → H} {P : Program} {w : World} {base b0 : Nat} {spare : Nat → Bool} {held : Bool} {r : Reach}
theorem arg_int {k : IntKind} {t : TypeId} {v : Value} {d : DataW H} {ps : List MemPlace} (ht : P.underlying t = some (.int k)) (hv : Value.okWide P w r b0 t v) (h : DataW.Trod enc P w base spare held t v d ps) : ∃ n, v = .int k n ∧ inK k n := by
  obtain ⟨n, hn, _, _, hw⟩ := open_int ht hv h
  refine ⟨n, hn, ?_⟩
  simpa [Lit.wf, inK] using hw
theorem arg_strings {t e : TypeId} {v : Value} {d : DataW H} {ps : List MemPlace} (ht : P.underlying t = some (.slice e)) (he : P.underlying e = some .string) (hc : P.cellsOf e = 1) (hv : Value.okWide P w r b0 t v)
    (h : DataW.Trod enc P w base spare held t v d ps) (hlt : ∀ x ∈ ps, x.block < w.heap.size) :
    ∃ (ao : Option Addr) (len cap : Nat) (ss : List ByteArray), v = .slice ao len cap ∧ len = ss.length ∧ len ≤ cap ∧ cap ≤ maxLen ∧ (∀ s ∈ ss, s.size ≤ maxLen) ∧ SeenC w (rng ao (ss.map Value.string)) := by
  obtain ⟨a0, len, cap, rfl⟩ := okWide_slice ht hv
  obtain ⟨fuel, hf⟩ := h
  rcases open_strings ht he hc hf with ⟨hcs, _⟩ | ⟨a, len', cap', ss, hcs, _, hl, hm, hz, hx, hcell, hsz⟩
  · simp [Value.cells] at hcs
    obtain ⟨rfl, rfl, rfl⟩ := hcs
    exact ⟨none, 0, 0, [], rfl, rfl, Nat.le_refl _, Nat.zero_le _, by simp, rfl, fun j v hv => by simp at hv, fun k hk => absurd rfl hk.1⟩
  · simp [Value.cells] at hcs
    obtain ⟨rfl, rfl, rfl⟩ := hcs
    have hlen : len ≤ ss.length := by rw [hz]; split <;> omega
    simp only [Prod.mk.injEq] at hx
    refine ⟨some a, len, cap, ss.take len, rfl, by simp; omega, hl, hm, fun s hs => hsz s (List.mem_of_mem_take hs), rfl, fun j v hv => ⟨a, rfl, ?_⟩, fun k hk => ?_⟩
    · rw [List.getElem?_map, List.getElem?_take] at hv
      split at hv
      · rename_i hj
        rw [hcell j (by omega)]
        rw [List.getElem?_eq_getElem (by omega)] at hv
        simp only [Option.map_some, Option.some.injEq] at hv
        rw [← hv]
        simp [show j < ss.length by omega]
      · simp at hv
    · obtain ⟨hne, a', ha, rfl⟩ := hk
      cases ha
      have : 0 < ss.length := by
        rcases Nat.eq_zero_or_pos ss.length with h0 | h0
        · rw [List.length_eq_zero_iff.1 h0] at hne; simp at hne
        · exact h0
      have := hlt (.cell a.block (a.off + 0)) (by rw [hx.2]; unfold MemPlace.row; exact List.mem_map.2 ⟨0, by simpa using this, rfl⟩)
      exact this
end
end Go.Sx

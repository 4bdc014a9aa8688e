/- Small rules for symbolic steps, the twentieth part: arguments that hold structs. Program-independent. -/
import Derived.Test.YtgmegfmabkkaoaaSxG
namespace Go.Sx
open Go Chunk
open Go.ChangeShapes Go.WideShapes Go.RowKit
set_option linter.unusedSimpArgs false
set_option linter.unusedVariables false
section
variable {H : Type} {enc : TypeId × Value → H} {P : Program} {w : World} {base b0 : Nat} {spare : Nat → Bool} {held : Bool} {r : Reach}
/-- What the cells of so many fields are. -/
def DecF (enc : TypeId × Value → H) (P : Program) (w : World) (base : Nat) (spare : Nat → Bool) (held : Bool) (fs : List Field) (o sz : Nat) {α : Type} (cells : α → List Value) (ok : α → Prop) (seen : α → List Chunk) : Prop :=
  ∀ (n : Nat) (cs : List Value), (∀ f ∈ fs, ∃ y, DataW.trod enc P w base spare held n f.type ((cs.drop f.offset).take (P.cellsOf f.type)) = some y) → ∃ a : α, (cs.drop o).take sz = cells a ∧ ok a ∧ Seen w (seen a)
theorem decF_nil {o : Nat} : DecF enc P w base spare held [] o 0 (α := Unit) (fun _ => []) (fun _ => True) (fun _ => []) := fun n cs _ => ⟨(), by simp, trivial, trivial⟩
theorem decF_cons {f : Field} {fs : List Field} {o k sz : Nat} {α β : Type} {c1 : α → List Value} {ok1 : α → Prop} {s1 : α → List Chunk} {c2 : β → List Value} {ok2 : β → Prop} {s2 : β → List Chunk} (ho : f.offset = o) (hk : P.cellsOf f.type = k)
    (h1 : Dec enc P w base spare held f.type c1 ok1 s1) (h2 : DecF enc P w base spare held fs (o + k) sz c2 ok2 s2) : DecF enc P w base spare held (f :: fs) o (k + sz) (fun x : α × β => c1 x.1 ++ c2 x.2) (fun x => ok1 x.1 ∧ ok2 x.2) (fun x => s1 x.1 ++ s2 x.2) := fun n cs h => by
  obtain ⟨y, hy⟩ := h f (by simp)
  rw [ho, hk] at hy
  obtain ⟨a, ha, hoa, hsa⟩ := h1 n _ _ hy
  obtain ⟨b, hb, hob, hsb⟩ := h2 n cs (fun g hg => h g (by simp [hg]))
  refine ⟨(a, b), ?_, ⟨hoa, hob⟩, hsa.append hsb⟩
  show _ = c1 a ++ c2 b
  rw [← ha, ← hb, List.take_add, List.drop_drop]
theorem dec_struct {t : TypeId} {fs : Array Field} {sz : Nat} {α : Type} {cells : α → List Value} {ok : α → Prop} {seen : α → List Chunk} (ht : P.underlying t = some (.struct fs)) (hsz : P.cellsOf t = sz) (h : DecF enc P w base spare held fs.toList 0 sz cells ok seen) : Dec enc P w base spare held t cells ok seen := fun fuel cs x hx => by
  obtain ⟨xs, n, _, _, hl, hlen, hf⟩ := DataW.trod_struct ht hx
  obtain ⟨a, ha, h1, h2⟩ := h n cs (fun f hf' => by
    obtain ⟨i, hi⟩ := List.mem_iff_getElem?.1 hf'
    have hi' : fs[i]? = some f := by simpa using hi
    have := hf i f hi'
    have hlt : i < xs.length := by rw [hlen]; exact (Array.getElem?_eq_some_iff.1 hi').1
    exact ⟨xs[i], by rw [this]; simp [hlt]⟩)
  refine ⟨a, ?_, h1, h2⟩
  rw [List.drop_zero, List.take_of_length_le (by omega)] at ha
  exact ha
/-- The same in other words. -/
theorem Dec.iso {t : TypeId} {α β : Type} {c1 : α → List Value} {ok1 : α → Prop} {s1 : α → List Chunk} {c2 : β → List Value} {ok2 : β → Prop} {s2 : β → List Chunk} (g : α → β) (hc : ∀ a, c1 a = c2 (g a)) (ho : ∀ a, ok1 a → ok2 (g a)) (hs : ∀ a, s1 a = s2 (g a)) (h : Dec enc P w base spare held t c1 ok1 s1) : Dec enc P w base spare held t c2 ok2 s2 := fun fuel cs x hx => by
  obtain ⟨a, h1, h2, h3⟩ := h fuel cs x hx
  exact ⟨g a, by rw [h1, hc], ho a h2, by rw [← hs]; exact h3⟩
/-- A slice within a struct. -/
theorem dec_sliceD {t e : TypeId} {α : Type} {cells : α → List Value} {ok : α → Prop} {seen : α → List Chunk} {sz : Nat} (ht : P.underlying t = some (.slice e)) (hsz : P.cellsOf e = sz) (hpos : 0 < sz) (hc : ∀ a, (cells a).length = sz) (hd : Dec enc P w base spare held e cells ok seen) :
    Dec enc P w base spare held t (fun x : Option Addr × Nat × List α => [.slice x.1 x.2.2.length x.2.1]) (fun x => x.2.2.length ≤ x.2.1 ∧ x.2.1 ≤ maxLen ∧ ∀ a ∈ x.2.2, ok a) (fun x => rng x.1 (x.2.2.flatMap cells) :: x.2.2.flatMap seen) := fun fuel cs x hx => by
  obtain ⟨ao, cap, l, h1, h2, h3, h4, h5⟩ := dec_slice ht hsz hpos hc hd fuel cs x hx
  exact ⟨(ao, cap, l), h1, ⟨h2, h3, h4⟩, h5⟩
end
end Go.Sx

/- Arguments that hold objects, opened. -/
import Derived.Test.YtgmegfmabkkaoaaOb1
import Derived.Test.YtgmegfmabkkaoaaSxO
namespace Go.Proofs.Ytgmegfmabkkaoaa
open Go Go.Sx Go.Sx.Chunk
open Go.ChangeShapes Go.WideShapes Go.RowKit
set_option linter.unusedVariables false
set_option linter.unusedSimpArgs false
section
variable {H : Type} {enc : TypeId × Value → H} {w : World} {base : Nat} {spare : Nat → Bool} {held : Bool}
theorem decI : DecW enc Try.prog w base spare held 63 inV (fun a => inK .i64 a.op ∧ inK .i64 a.a ∧ inK .i64 a.b ∧ inK .i64 a.c ∧ inK .i64 a.imm) (fun _ => []) :=
  (decW_struct Try.underlying63 (sz := 5) (by kernel_rfl) (decFW_cons (k := 1) (sz := 4) rfl (by kernel_rfl) (decW_of (dec_int Try.underlying3)) (decFW_cons (k := 1) (sz := 3) rfl (by kernel_rfl) (decW_of (dec_int Try.underlying3)) (decFW_cons (k := 1) (sz := 2) rfl (by kernel_rfl) (decW_of (dec_int Try.underlying3)) (decFW_cons (k := 1) (sz := 1) rfl (by kernel_rfl) (decW_of (dec_int Try.underlying3)) (decFW_cons (k := 1) (sz := 0) rfl (by kernel_rfl) (decW_of (dec_int Try.underlying3)) decFW_nil)))))).iso
    (fun (x : Int × Int × Int × Int × Int × Unit) => (⟨x.1, x.2.1, x.2.2.1, x.2.2.2.1, x.2.2.2.2.1⟩ : In)) (fun _ => rfl) (fun _ h => ⟨h.1, h.2.1, h.2.2.1, h.2.2.2.1, h.2.2.2.2.1⟩) (fun _ => rfl)
theorem decY : DecW enc Try.prog w base spare held 48 syV (fun a => a.name.size ≤ maxLen ∧ inK .i64 a.pl) (fun _ => []) :=
  (decW_struct Try.underlying48 (sz := 2) (by kernel_rfl) (decFW_cons (k := 1) (sz := 1) rfl (by kernel_rfl) (decW_string Try.underlying9) (decFW_cons (k := 1) (sz := 0) rfl (by kernel_rfl) (decW_of (dec_int Try.underlying3)) decFW_nil))).iso
    (fun (x : ByteArray × Int × Unit) => (⟨x.1, x.2.1⟩ : Sy)) (fun _ => rfl) (fun _ h => ⟨h.1, h.2.1⟩) (fun _ => rfl)
theorem decP : DecW enc Try.prog w base spare held 54 paV (fun a => inK .i64 a.pl ∧ inK .i64 a.kind ∧ inK .i64 a.n) (fun _ => []) :=
  (decW_struct Try.underlying54 (sz := 3) (by kernel_rfl) (decFW_cons (k := 1) (sz := 2) rfl (by kernel_rfl) (decW_of (dec_int Try.underlying3)) (decFW_cons (k := 1) (sz := 1) rfl (by kernel_rfl) (decW_of (dec_int Try.underlying3)) (decFW_cons (k := 1) (sz := 0) rfl (by kernel_rfl) (decW_of (dec_int Try.underlying3)) decFW_nil)))).iso
    (fun (x : Int × Int × Int × Unit) => (⟨x.1, x.2.1, x.2.2.1⟩ : Pa)) (fun _ => rfl) (fun _ h => ⟨h.1, h.2.1, h.2.2.1⟩) (fun _ => rfl)
theorem flat_none {α : Type} : ∀ l : List α, l.flatMap (fun _ => ([] : List Chunk)) = []
  | [] => rfl
  | _ :: l => by rw [List.flatMap_cons, flat_none l]; rfl
/-- The bounds of an object that is an argument. -/
structure ArgOb (o : Ob) : Prop extends OkOb o where
  data : inK .i64 o.data
  xpl : ∀ x ∈ o.exps, inK .i64 x.pl
  cod : ∀ a ∈ o.code, inK .i64 a.op ∧ inK .i64 a.a ∧ inK .i64 a.b ∧ inK .i64 a.c ∧ inK .i64 a.imm
  pat : ∀ a ∈ o.pats, inK .i64 a.pl ∧ inK .i64 a.kind ∧ inK .i64 a.n
theorem str_flat : ∀ l : List ByteArray, l.flatMap (fun s => [Value.string s]) = strC l
  | [] => rfl
  | a :: l => by rw [List.flatMap_cons, str_flat l]; rfl
theorem decO : DecW enc Try.prog w base spare held 27 obV ArgOb obS :=
  (decW_struct Try.underlying27 (sz := 6) (by kernel_rfl) (decFW_cons (k := 1) (sz := 5) rfl (by kernel_rfl) (decW_string Try.underlying9)
    (decFW_cons (k := 1) (sz := 4) rfl (by kernel_rfl) (decW_slice (sz := 5) (bz := 40) Try.underlying22 (by kernel_rfl) (by kernel_rfl) (by decide) (fun _ => rfl) decI)
    (decFW_cons (k := 1) (sz := 3) rfl (by kernel_rfl) (decW_of (dec_int Try.underlying3))
    (decFW_cons (k := 1) (sz := 2) rfl (by kernel_rfl) (decW_slice (sz := 2) (bz := 24) Try.underlying23 (by kernel_rfl) (by kernel_rfl) (by decide) (fun _ => rfl) decY)
    (decFW_cons (k := 1) (sz := 1) rfl (by kernel_rfl) (decW_slice (sz := 1) (bz := 16) Try.underlying24 (by kernel_rfl) (by kernel_rfl) (by decide) (fun _ => rfl) (decW_string Try.underlying9))
    (decFW_cons (k := 1) (sz := 0) rfl (by kernel_rfl) (decW_slice (sz := 3) (bz := 24) Try.underlying25 (by kernel_rfl) (by kernel_rfl) (by decide) (fun _ => rfl) decP) decFW_nil))))))).iso
    (fun (x : ByteArray × (Option Addr × Nat × List In) × Int × (Option Addr × Nat × List Sy) × (Option Addr × Nat × List ByteArray) × (Option Addr × Nat × List Pa) × Unit) =>
      (⟨x.1, x.2.1.1, x.2.1.2.1, x.2.1.2.2, x.2.2.1, x.2.2.2.1.1, x.2.2.2.1.2.1, x.2.2.2.1.2.2, x.2.2.2.2.1.1, x.2.2.2.2.1.2.1, x.2.2.2.2.1.2.2, x.2.2.2.2.2.1.1, x.2.2.2.2.2.1.2.1, x.2.2.2.2.2.1.2.2⟩ : Ob))
    (fun _ => rfl) (fun x h => by
      obtain ⟨h1, ⟨h2, h2'⟩, h3, ⟨h4, h4'⟩, ⟨h5, h5'⟩, ⟨h6, h6'⟩, _⟩ := h
      have hb : reachBytes = 140737488351232 := rfl
      rw [hb] at h2 h4 h5 h6
      refine ⟨⟨h1, ?_, ?_, ?_, ?_, fun y hy => (h4' y hy).1, fun y hy => h5' y hy⟩, h3, fun y hy => (h4' y hy).2, h2', h6'⟩
      all_goals dsimp only
      all_goals omega)
    (fun x => by
      obtain ⟨x1, ⟨a1, a2, a3⟩, x3, ⟨b1, b2, b3⟩, ⟨c1, c2, c3⟩, ⟨d1, d2, d3⟩, _⟩ := x
      simp only [flat_none, List.nil_append, List.append_nil, List.cons_append, obS, str_flat]
      rfl)
end
end Go.Proofs.Ytgmegfmabkkaoaa

/- LinkBehind: true for every input -/
import Derived.Test.YtmaepdebbijkiaaRows
import Derived.Test.YtmaepdebbijkiaaLk14
import Derived.WalkKit
import Derived.ProofKit
import Derived.OpenShut
import Derived.ShutString
import Derived.ChangeOld
import Derived.Below
import Derived.Carry
import Derived.SizedLaws
import Derived.Lib.SmallJoins
namespace Go.Proofs.Ytmaepdebbijkiaa.linkBehind
open Go.ChangeShapes Go.WideShapes Go.ChangeAt Go.RowKit Go.Joins Go.Deep Go.Sx
open Go.ChangeMaps (open_string shut_string)
set_option linter.unusedVariables false
theorem own : ownKnob Try.prog.godebug = none := by kernel_rfl
theorem laidOut : laidOutB Try.prog = true := by kernel_rfl
theorem bytesE41 : Try.prog.bytesOf 41 = 120 := by kernel_rfl
theorem bytesE47 : Try.prog.bytesOf 47 = 40 := by kernel_rfl
theorem cellsE41 : Try.prog.cellsOf 41 = 6 := by kernel_rfl
theorem cellsE47 : Try.prog.cellsOf 47 = 5 := by kernel_rfl
set_option maxRecDepth 100000 in
theorem lifted (os : Os) (started : os.Started) (H : Type) (enc : TypeId × Value → H) :
    ReturnsInHanded {} Try.checked os 5 .any (Rows.linkBehindSpec.pre6 enc Try.prog Try.f5 Rows.linkBehindRow.domain false) (Rows.linkBehindSpec.post enc Try.prog Try.f5 false true false false) := by
  refine returnsInHanded_of_change_sized (C := Try.checked) own started (by kernel_rfl) Try.func5
    (ChangeSpec.witness6 (enc := enc) (C := Try.checked) false ⟨#[], #[.slice none 0 0, .slice none 0 0, .int .i64 0], []⟩ 8 (by kernel_rfl) (by kernel_rfl) (by kernel_rfl) (by kernel_rfl)) ?_
  intro W base args ds gs before hval0 hW hcnd hsz0 _
  have hval : ∀ (j : Nat) t v, Try.f5.params[j]? = some t → args[j]? = some v → Value.okWide Try.prog W .any base t v := hval0
  have hW' := hW
  obtain ⟨p, q, hA0, hV, rfl, hfz, hnd⟩ := hW
  have hA : DataW.TrodAll enc Try.prog W 0 (fun _ => true) true Try.f5.params.toList args.toList ds p := hA0
  rw [Try.params5] at hA hval hsz0
  obtain ⟨v0, vs0, d0, ds0, p0, q0, hargs, rfl, rfl, h0, r0⟩ := trodAll_cons hA
  obtain ⟨v1, vs1, d1, ds1, p1, q1, rfl, rfl, rfl, h1, r1⟩ := trodAll_cons r0
  obtain ⟨v2, vs2, d2, ds2, p2, q2, rfl, rfl, rfl, h2, r2⟩ := trodAll_cons r1
  obtain ⟨rfl, rfl, rfl⟩ := trodAll_nil r2
  obtain rfl : args = #[v0, v1, v2] := by cases args; simp_all
  obtain ⟨rfl, rfl⟩ := trodVars_none hV
  have h0k := h0
  have hlt0 : ∀ x ∈ p0, x.block < W.heap.size := fun x hx => hW'.lt x (by simp [hx])
  have h1k := h1
  have hlt1 : ∀ x ∈ p1, x.block < W.heap.size := fun x hx => hW'.lt x (by simp [hx])
  have h2k := h2
  have hlt2 : ∀ x ∈ p2, x.block < W.heap.size := fun x hx => hW'.lt x (by simp [hx])
  obtain ⟨a0, c0, l0, rfl, hc0, hm0, hb0, hok0, see0⟩ := arg_sliceW (cells := obV) (sz := 6) (bz := 120) Try.underlying22 cellsE41 bytesE41 (by decide) (fun _ => rfl) (decO) (hval 0 22 v0 rfl rfl) h0 (light_arg (j := 0) hsz0 rfl rfl)
  obtain ⟨a1, c1, l1, rfl, hc1, hm1, hb1, hok1, see1⟩ := arg_sliceW (cells := inV) (sz := 5) (bz := 40) Try.underlying27 cellsE47 bytesE47 (by decide) (fun _ => rfl) (decI) (hval 1 27 v1 rfl rfl) h1 (light_arg (j := 1) hsz0 rfl rfl)
  obtain ⟨s2, rfl, hi2⟩ := arg_int Try.underlying3 (hval 2 3 v2 rfl rfl) h2
  clear hA0 hval0 hsz0
  refine (FnC.law (behind_law a0 a1 c0 c1 l0 l1 s2 (fun o ho => (hok0 o ho).toOkOb)) (w := W) ⟨see0.1, (seen_see see0.2).1, see1.1, trivial⟩).mono fun e W' ⟨he, bel⟩ => ?_
  subst he
  exact ⟨_, rfl, _, _, _, [], _, [], hW', trodAll_mk1 (shut_bool Try.underlying4 _), (trodAll_cons_mk (Below.trod laidOut (by kernel_rfl) (of_decide_eq_true (by kernel_rfl)) h0k bel hlt0) (trodAll_cons_mk (Below.trod laidOut (by kernel_rfl) (of_decide_eq_true (by kernel_rfl)) h1k bel hlt1) (trodAll_cons_mk (Below.trod laidOut (by kernel_rfl) (of_decide_eq_true (by kernel_rfl)) h2k bel hlt2) trodAll_mk0))), rfl, bel.frame _, fun h => by cases h⟩
theorem over : Rows.linkBehindRow.holds Try.pinned (OpenSpec.ofChange Rows.linkBehindSpec) :=
  OpenClaim.holds_of_wide 5 Try.f5 rfl rfl rfl rfl rfl rfl rfl ⟨rfl, rfl, rfl, rfl, rfl⟩ rfl rfl rfl rfl rfl (by kernel_rfl) Try.func5 (by kernel_rfl)
    (of_decide_eq_true (by kernel_rfl)) (by unfold Func.isWrapper; first | (rw [if_pos (by decide +kernel)]; kernel_rfl) | (rw [if_neg (by decide +kernel)]; exact ⟨rfl, rfl⟩))
    (fun os started H enc _ => lifted os started H enc)
theorem proved : Rows.LinkBehindSaid := over
#print axioms proved
end Go.Proofs.Ytmaepdebbijkiaa.linkBehind
namespace Go.Proofs.Ytmaepdebbijkiaa
/-- The row, under a short name, for the claim. -/
theorem linkBehind_holds : Rows.LinkBehindSaid := linkBehind.proved
end Go.Proofs.Ytmaepdebbijkiaa

/- The row and the card of TextRows: with any input of its kinds the law returns true and leaves its arguments as they were. No condition but the variables of Go's library that the card lays. -/
import Derived.Test.YtkajfjmplaobbaaDoorCards
import Derived.Test.YtkajfjmplaobbaaDoorTie
import Derived.Test.YtkajfjmplaobbaaDoorM5
import Derived.WalkKit
import Derived.ProofKit
import Derived.OpenShut
import Derived.ShutString
import Derived.ChangeOld
import Derived.Below
import Derived.Carry
import Derived.SizedLaws
import Derived.Lay
import Derived.SevenTiedAt
import Derived.Stop.Joined
import Derived.Lib.SmallJoins
namespace Go.Proofs.YtkajfjmplaobbaaDoor.textRows
open Go.ChangeShapes Go.WideShapes Go.ChangeAt Go.RowKit Go.Joins Go.Deep Go.Sx
open Go.ChangeMaps (open_string shut_string)
set_option linter.unusedVariables false
theorem own : ownKnob Tryd.prog.godebug = none := by kernel_rfl
theorem laidOut : laidOutB Tryd.prog = true := by kernel_rfl
theorem cellsE23 : Tryd.prog.cellsOf 23 = 5 := by kernel_rfl
theorem bytesE23 : Tryd.prog.bytesOf 23 = 40 := by kernel_rfl
set_option maxRecDepth 100000 in
theorem lifted (os : Os) (started : os.Started) (H : Type) (enc : TypeId × Value → H) :
    ReturnsInHanded {} Tryd.checked os 8 .any (fun w args => (Rows.textRowsSpec.pre enc Tryd.prog Tryd.f8 Rows.textRowsRow.domain false w args ∧ laidMetH Tryd.prog laidL w) ∧ sizedMet enc Tryd.prog Tryd.f8 (OpenSpec.ofChange Rows.textRowsSpec) false w args)
      (Rows.textRowsSpec.post enc Tryd.prog Tryd.f8 false true false false) := by
  refine handed_door (C := Tryd.checked) (X := fun w _ => laidMetH Tryd.prog laidL w) (fun _ _ _ hh h => h.of_heap hh) own started (by kernel_rfl) Tryd.func8
    (ChangeSpec.witness_shaped (enc := enc) (C := Tryd.checked) (os := os) (X := fun w _ => laidMetH Tryd.prog laidL w) false (World.laidAll Tryd.prog os laidL) #[.slice none 0 0, .slice none 0 0] 8 (World.laidAll_os _ _ _)
      (World.shaped_of_ZipB (by kernel_rfl) (by kernel_rfl)) (by kernel_rfl) (by kernel_rfl) (by kernel_rfl)
      (by rw [MakeChecks.laidMetH_plain _ _ _ (by kernel_rfl)]; exact laidMet_laidAll _ (by kernel_rfl) (by kernel_rfl))) ?_
  intro W base args ds gs before hval0 hW hcnd hsz0 hL hshp _
  have hval : ∀ (j : Nat) t v, Tryd.f8.params[j]? = some t → args[j]? = some v → Value.okWide Tryd.prog W .any base t v := hval0
  have hW' := hW
  obtain ⟨p, q, hA0, hV, rfl, hfz, hnd⟩ := hW
  have hA : DataW.TrodAll enc Tryd.prog W 0 (fun _ => true) true Tryd.f8.params.toList args.toList ds p := hA0
  rw [Tryd.params8] at hA hval hsz0
  obtain ⟨v0, vs0, d0, ds0, p0, q0, hargs, rfl, rfl, h0, r0⟩ := trodAll_cons hA
  obtain ⟨v1, vs1, d1, ds1, p1, q1, rfl, rfl, rfl, h1, r1⟩ := trodAll_cons r0
  obtain ⟨rfl, rfl, rfl⟩ := trodAll_nil r1
  obtain rfl : args = #[v0, v1] := by cases args; simp_all
  obtain ⟨rfl, rfl⟩ := trodVars_none hV
  have h0k := h0
  have hlt0 : ∀ x ∈ p0, x.block < W.heap.size := fun x hx => hW'.lt x (by simp [hx])
  have h1k := h1
  have hlt1 : ∀ x ∈ p1, x.block < W.heap.size := fun x hx => hW'.lt x (by simp [hx])
  obtain ⟨a0, c0, l0, rfl, hc0, hm0, hb0, hok0, see0⟩ := arg_sliceW (cells := inV) (sz := 5) (bz := 40) Tryd.underlying30 cellsE23 bytesE23 (by decide) (fun _ => rfl) (decI) (hval 0 30 v0 rfl rfl) h0 (light_arg (j := 0) hsz0 rfl rfl)
  obtain ⟨a1, c1, l1, rfl, hc1, hm1, hb1, hok1, see1⟩ := arg_sliceW (cells := inV) (sz := 5) (bz := 40) Tryd.underlying30 cellsE23 bytesE23 (by decide) (fun _ => rfl) (decI) (hval 1 30 v1 rfl rfl) h1 (light_arg (j := 1) hsz0 rfl rfl)
  clear hA0 hval0 hsz0
  obtain ⟨m, ev, ev2, he1, he2, hva⟩ := va_seen hL hshp
  refine (FnC.law (rows_law m ev ev2 he1 he2 a0 c0 l0 a1 c1 l1) (w := W) ⟨see0.1, ⟨see1.1, hva⟩⟩).mono fun e W' ⟨he, bel⟩ => ?_
  subst he
  exact ⟨_, rfl, _, _, _, [], _, [], hW', trodAll_mk1 (shut_bool Tryd.underlying4 _), (trodAll_cons_mk (Below.trod laidOut (by kernel_rfl) (of_decide_eq_true (by kernel_rfl)) h0k bel hlt0) (trodAll_cons_mk (Below.trod laidOut (by kernel_rfl) (of_decide_eq_true (by kernel_rfl)) h1k bel hlt1) trodAll_mk0)), rfl, bel.frame _, fun h => by cases h⟩
theorem over : Rows.textRowsRow.holds Tryd.pinned (OpenSpec.ofChange Rows.textRowsSpec) :=
  OpenClaim.holds_of_wide 8 Tryd.f8 rfl rfl rfl rfl rfl rfl rfl ⟨rfl, rfl, rfl, rfl, rfl⟩ rfl rfl rfl rfl rfl (by kernel_rfl) Tryd.func8 (by kernel_rfl)
    (of_decide_eq_true (by kernel_rfl)) (by unfold Func.isWrapper; first | (rw [if_pos (by decide +kernel)]; kernel_rfl) | (rw [if_neg (by decide +kernel)]; exact ⟨rfl, rfl⟩))
    (fun os started H enc _ => lifted os started H enc)
theorem proved : Rows.TextRowsCardSaid :=
  Claim7.holds_tied_plain_at .later [] [.data, .data, .data, .data, .sentinel, .sentinel, .listed, .data, .pinned] true (true, "504fc16b671b34644bb352d4a91002a957a587496d8d14da3073f2f297746a58") true over (fun _ h => by cases h) (by kernel_rfl) (fun _ h => by cases h) textRows_row_tie rfl ⟨rfl, rfl⟩ (by kernel_rfl) rfl
    (fun f fn hf hfn => by
      obtain rfl : f = 8 := Option.some.inj ((show Tryd.prog.funcNamed "delayslot/delayslotlaw04.TextRows" = some 8 by kernel_rfl).symm.trans hf) |>.symm
      obtain rfl : fn = Tryd.f8 := (Option.some.inj (Tryd.func8.symm.trans hfn)).symm
      exact ⟨by kernel_rfl, fun j t ht => by
        rw [Tryd.params8] at ht
        have hm : t ∈ [30, 30] := by simpa using Array.mem_of_getElem? ht
        have hall : ([30, 30].all fun u => !Tryd.prog.wantsStandIn u) = true := by kernel_rfl
        exact (show Tryd.prog.wantsStandIn t = false by simpa using List.all_eq_true.1 hall t hm)⟩)
    (by kernel_rfl)
#print axioms proved
end Go.Proofs.YtkajfjmplaobbaaDoor.textRows
namespace Go.Proofs.YtkajfjmplaobbaaDoor
/-- The card, under a short name, for the claim. -/
theorem textRows_holds : Rows.TextRowsCardSaid := textRows.proved
end Go.Proofs.YtkajfjmplaobbaaDoor

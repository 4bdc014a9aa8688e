/- The row and the card of BuildModules: with any input of its kinds the law returns true and leaves its arguments as they were. No condition but the variables of Go's library that the card lays. -/
import Derived.Test.YtkolmklfgbimoaaGreatDoorCards
import Derived.Test.YtkolmklfgbimoaaGreatDoorTie
import Derived.Test.YtkolmklfgbimoaaGreatDoorM14
import Derived.WalkKit
import Derived.ProofKit
import Derived.OpenShut
import Derived.ShutString
import Derived.ChangeOld
import Derived.Below
import Derived.Carry
import Derived.SizedLaws
import Derived.Lay
import Derived.SevenTiedAt
import Derived.Stop.Joined
import Derived.Lib.SmallJoins
namespace Go.Proofs.YtkolmklfgbimoaaGreatDoor.buildModules
open Go.ChangeShapes Go.WideShapes Go.ChangeAt Go.RowKit Go.Joins Go.Deep Go.Sx
open Go.ChangeMaps (open_string shut_string)
set_option linter.unusedVariables false
theorem own : ownKnob Tryz.prog.godebug = none := by kernel_rfl
theorem laidOut : laidOutB Tryz.prog = true := by kernel_rfl
theorem cellsE21 : Tryz.prog.cellsOf 21 = 1 := by kernel_rfl
theorem bytesE21 : Tryz.prog.bytesOf 21 = 4 := by kernel_rfl
set_option maxRecDepth 100000 in
theorem lifted (os : Os) (started : os.Started) (H : Type) (enc : TypeId × Value → H) :
    ReturnsInHanded {} Tryz.checked os 10 .any (fun w args => (Rows.buildModulesSpec.pre enc Tryz.prog Tryz.f10 Rows.buildModulesRow.domain false w args ∧ laidMetH Tryz.prog laidL w) ∧ sizedMet enc Tryz.prog Tryz.f10 (OpenSpec.ofChange Rows.buildModulesSpec) false w args)
      (Rows.buildModulesSpec.post enc Tryz.prog Tryz.f10 false true false false) := by
  refine handed_door (C := Tryz.checked) (X := fun w _ => laidMetH Tryz.prog laidL w) (fun _ _ _ hh h => h.of_heap hh) own started (by kernel_rfl) Tryz.func10
    (ChangeSpec.witness_shaped (enc := enc) (C := Tryz.checked) (os := os) (X := fun w _ => laidMetH Tryz.prog laidL w) false (World.laidAll Tryz.prog os laidL) #[.slice none 0 0] 8 (World.laidAll_os _ _ _)
      (World.shaped_of_ZipB (by kernel_rfl) (by kernel_rfl)) (by kernel_rfl) (by kernel_rfl) (by kernel_rfl)
      (by rw [MakeChecks.laidMetH_plain _ _ _ (by kernel_rfl)]; exact laidMet_laidAll _ (by kernel_rfl) (by kernel_rfl))) ?_
  intro W base args ds gs before hval0 hW hcnd hsz0 hL hshp _
  have hval : ∀ (j : Nat) t v, Tryz.f10.params[j]? = some t → args[j]? = some v → Value.okWide Tryz.prog W .any base t v := hval0
  have hW' := hW
  obtain ⟨p, q, hA0, hV, rfl, hfz, hnd⟩ := hW
  have hA : DataW.TrodAll enc Tryz.prog W 0 (fun _ => true) true Tryz.f10.params.toList args.toList ds p := hA0
  rw [Tryz.params10] at hA hval hsz0
  obtain ⟨v0, vs0, d0, ds0, p0, q0, hargs, rfl, rfl, h0, r0⟩ := trodAll_cons hA
  obtain ⟨rfl, rfl, rfl⟩ := trodAll_nil r0
  obtain rfl : args = #[v0] := by cases args; simp_all
  obtain ⟨rfl, rfl⟩ := trodVars_none hV
  have h0k := h0
  have hlt0 : ∀ x ∈ p0, x.block < W.heap.size := fun x hx => hW'.lt x (by simp [hx])
  obtain ⟨a0, c0, l0, rfl, hc0, hm0, hb0, hok0, see0⟩ := arg_sliceW (cells := i32V) (sz := 1) (bz := 4) Tryz.underlying67 cellsE21 bytesE21 (by decide) (fun _ => rfl) (decW_of (dec_int Tryz.underlying21)) (hval 0 67 v0 rfl rfl) h0 (light_arg (j := 0) hsz0 rfl rfl)
  clear hA0 hval0 hsz0
  obtain ⟨m, ev, ev2, he1, he2, hva⟩ := va_seen hL hshp
  refine (FnC.law (mod20_law a0 c0 l0 hc0 hm0 hok0) (w := W) ⟨see0.1, hva⟩).mono fun e W' ⟨he, bel⟩ => ?_
  subst he
  exact ⟨_, rfl, _, _, _, [], _, [], hW', trodAll_mk1 (shut_bool Tryz.underlying4 _), (trodAll_cons_mk (Below.trod laidOut (by kernel_rfl) (of_decide_eq_true (by kernel_rfl)) h0k bel hlt0) trodAll_mk0), rfl, bel.frame _, fun h => by cases h⟩
theorem jk0 : (Rows.buildModulesRow.wf (OpenSpec.ofChange Rows.buildModulesSpec)) = true := by kernel_rfl
theorem jk1 : (laidOutB Tryz.pinned.checked.prog) = true := by kernel_rfl
theorem jk2 : (mapsRowed Tryz.pinned.checked.prog) = true := by kernel_rfl
theorem jk3 : (Tryz.f10.params.all (Tryz.pinned.checked.prog.readableRec ·)) = true := by kernel_rfl
theorem jk4 : (namedTie Tryz.pinned.checked.prog Rows.buildModulesRow.named Rows.buildModulesSpec.vars) = true := by kernel_rfl
theorem jk5 : ((Rows.buildModulesRow.stops == [])) = true := by kernel_rfl
theorem jk6 : ((Tryz.pinned.checked.prog.stops == [])) = true := by kernel_rfl
theorem jk7 : ((Rows.buildModulesRow.knobs == [])) = true := by kernel_rfl
theorem jk8 : ((Tryz.pinned.checked.prog.stopKnobs == [])) = true := by kernel_rfl
theorem jk9 : ((Rows.buildModulesRow.inPlace == Tryz.pinned.checked.prog.inPlace 10)) = true := by kernel_rfl
theorem jk10 : ((Rows.buildModulesRow.unfollowed == Tryz.pinned.checked.prog.unfollowed 10)) = true := by kernel_rfl
theorem jk11 : ((Rows.buildModulesRow.recurses == Tryz.pinned.checked.prog.recurses 10)) = true := by kernel_rfl
theorem jk12 : ((Rows.buildModulesRow.named == Tryz.pinned.checked.prog.varsNamed 10)) = true := by kernel_rfl
theorem jk13 : ((Rows.buildModulesRow.maps == (Tryz.f10.params.toList ++ Rows.buildModulesSpec.plain.varTypes Tryz.pinned.checked.prog).any (Tryz.pinned.checked.prog.mapsRec ·))) = true := by kernel_rfl
theorem jk14 : ((Rows.buildModulesRow.ifaces == (Tryz.f10.params.toList ++ Rows.buildModulesSpec.plain.varTypes Tryz.pinned.checked.prog).any (Tryz.pinned.checked.prog.ifacesRec ·))) = true := by kernel_rfl
theorem jk15 : ((Rows.buildModulesRow.mapsOut == Tryz.pinned.checked.prog.mapsAmong Tryz.f10.resultTypes.toList)) = true := by kernel_rfl
theorem jk16 : ((Rows.buildModulesRow.loops == (Tryz.f10.params.toList ++ Rows.buildModulesSpec.plain.varTypes Tryz.pinned.checked.prog).any (Tryz.pinned.checked.prog.loopsFrom ·))) = true := by kernel_rfl
theorem jk17 : ((Rows.buildModulesRow.wideKeys == (Tryz.f10.params.toList ++ Rows.buildModulesSpec.plain.varTypes Tryz.pinned.checked.prog ++ Tryz.f10.resultTypes.toList).any (Tryz.pinned.checked.prog.wideKeysFrom ·))) = true := by kernel_rfl
theorem jk18 : (Rows.buildModulesSpec.vars.all (Tryz.pinned.checked.prog.varReadable ·)) = true := by kernel_rfl
theorem jk19 : (Tryz.f10.resultTypes.all (fun t => Tryz.pinned.checked.prog.readableRec t && decide (t < Tryz.pinned.checked.prog.types.size))) = true := by kernel_rfl
theorem jk20 : ((Rows.buildModulesRow.ifacesOut == Tryz.f10.resultTypes.toList.any (Tryz.pinned.checked.prog.ifacesRec ·))) = true := by kernel_rfl
theorem jk21 : ((Rows.buildModulesRow.loopsOut == Tryz.f10.resultTypes.toList.any (Tryz.pinned.checked.prog.loopsFrom ·))) = true := by kernel_rfl
theorem jk22 : ((Rows.buildModulesRow.plainKeys == Tryz.pinned.checked.prog.plainKeys)) = true := by kernel_rfl
theorem jk23 : (Rows.buildModulesRow.shortTexts.isNone) = true := by kernel_rfl
theorem jk24 : (Tryz.pinned.checked.prog.stopsHeard) = true := by kernel_rfl
theorem jk25 : (Tryz.pinned.checked.prog.mayEnter) = true := by kernel_rfl
theorem jk26 : ((Rows.buildModulesRow.lifted == Tryz.pinned.checked.prog.liftsFinal)) = true := by kernel_rfl
theorem jk27 : ((Tryz.pinned.checked.prog.make == some Rows.buildModulesRow.make)) = true := by kernel_rfl
theorem jk28 : ((Rows.buildModulesRow.kinds == (if Rows.buildModulesRow.domain.isEmpty then [] else Tryz.f10.params.toList.map fun t => match Tryz.pinned.checked.prog.underlying t with | some (.int k) => some k | _ => none))) = true := by kernel_rfl
theorem jk29 : ((Rows.buildModulesRow.pinned == Rows.buildModulesRow.pinnedBy)) = true := by kernel_rfl
theorem jk30 : ((Rows.buildModulesRow.veiled == (Tryz.f10.params.toList ++ Rows.buildModulesSpec.plain.varTypes Tryz.pinned.checked.prog ++ Tryz.f10.resultTypes.toList).any (Tryz.pinned.checked.prog.veiledRec ·))) = true := by kernel_rfl
theorem jk31 : (Rows.buildModulesRow.veiledFits Tryz.pinned.checked.prog Tryz.f10.params.toList (Tryz.f10.params.toList ++ Rows.buildModulesSpec.plain.varTypes Tryz.pinned.checked.prog ++ Tryz.f10.resultTypes.toList)) = true := by kernel_rfl
set_option maxRecDepth 100000 in
theorem joined : joinedFacts Tryz.pinned.checked.prog 10 Tryz.f10 Rows.buildModulesSpec Rows.buildModulesRow = true := by
  unfold joinedFacts
  exact (Bool.and_eq_true_iff.2 ⟨(Bool.and_eq_true_iff.2 ⟨(Bool.and_eq_true_iff.2 ⟨(Bool.and_eq_true_iff.2 ⟨(Bool.and_eq_true_iff.2 ⟨(Bool.and_eq_true_iff.2 ⟨(Bool.and_eq_true_iff.2 ⟨(Bool.and_eq_true_iff.2 ⟨(Bool.and_eq_true_iff.2 ⟨(Bool.and_eq_true_iff.2 ⟨(Bool.and_eq_true_iff.2 ⟨(Bool.and_eq_true_iff.2 ⟨(Bool.and_eq_true_iff.2 ⟨(Bool.and_eq_true_iff.2 ⟨(Bool.and_eq_true_iff.2 ⟨(Bool.and_eq_true_iff.2 ⟨(Bool.and_eq_true_iff.2 ⟨(Bool.and_eq_true_iff.2 ⟨(Bool.and_eq_true_iff.2 ⟨(Bool.and_eq_true_iff.2 ⟨(Bool.and_eq_true_iff.2 ⟨(Bool.and_eq_true_iff.2 ⟨(Bool.and_eq_true_iff.2 ⟨(Bool.and_eq_true_iff.2 ⟨(Bool.and_eq_true_iff.2 ⟨(Bool.and_eq_true_iff.2 ⟨(Bool.and_eq_true_iff.2 ⟨(Bool.and_eq_true_iff.2 ⟨(Bool.and_eq_true_iff.2 ⟨(Bool.and_eq_true_iff.2 ⟨(Bool.and_eq_true_iff.2 ⟨jk0, jk1⟩), jk2⟩), jk3⟩), jk4⟩), jk5⟩), jk6⟩), jk7⟩), jk8⟩), jk9⟩), jk10⟩), jk11⟩), jk12⟩), jk13⟩), jk14⟩), jk15⟩), jk16⟩), jk17⟩), jk18⟩), jk19⟩), jk20⟩), jk21⟩), jk22⟩), jk23⟩), jk24⟩), jk25⟩), jk26⟩), jk27⟩), jk28⟩), jk29⟩), jk30⟩), jk31⟩)
theorem over : Rows.buildModulesRow.holds Tryz.pinned (OpenSpec.ofChange Rows.buildModulesSpec) :=
  OpenClaim.holds_of_wide 10 Tryz.f10 rfl rfl rfl rfl rfl rfl rfl ⟨rfl, rfl, rfl, rfl, rfl⟩ rfl rfl rfl rfl rfl (by kernel_rfl) Tryz.func10 joined
    (of_decide_eq_true (by kernel_rfl)) (by unfold Func.isWrapper; first | (rw [if_pos (by decide +kernel)]; kernel_rfl) | (rw [if_neg (by decide +kernel)]; exact ⟨rfl, rfl⟩))
    (fun os started H enc _ => lifted os started H enc)
theorem proved : Rows.BuildModulesCardSaid :=
  Claim7.holds_tied_plain_at .later [] [.listed, .data] true (true, "89ac176c5073a06bfb41e9a9c1b46b7c2722c58b72c43670d0ed7b5182b8db16") false over (fun _ h => by cases h) (by kernel_rfl) (fun _ h => by cases h) buildModules_row_tie rfl ⟨rfl, rfl⟩ (by kernel_rfl) rfl
    (fun f fn hf hfn => by
      obtain rfl : f = 10 := Option.some.inj ((show Tryz.prog.funcNamed "delayslot/delayslotlaw20.BuildModules" = some 10 by kernel_rfl).symm.trans hf) |>.symm
      obtain rfl : fn = Tryz.f10 := (Option.some.inj (Tryz.func10.symm.trans hfn)).symm
      exact ⟨by kernel_rfl, fun j t ht => by
        rw [Tryz.params10] at ht
        have hm : t ∈ [67] := by simpa using Array.mem_of_getElem? ht
        have hall : ([67].all fun u => !Tryz.prog.wantsStandIn u) = true := by kernel_rfl
        exact (show Tryz.prog.wantsStandIn t = false by simpa using List.all_eq_true.1 hall t hm)⟩)
    (by kernel_rfl)
#print axioms proved
end Go.Proofs.YtkolmklfgbimoaaGreatDoor.buildModules
namespace Go.Proofs.YtkolmklfgbimoaaGreatDoor
/-- The card, under a short name, for the claim. -/
theorem buildModules_holds : Rows.BuildModulesCardSaid := buildModules.proved
end Go.Proofs.YtkolmklfgbimoaaGreatDoor

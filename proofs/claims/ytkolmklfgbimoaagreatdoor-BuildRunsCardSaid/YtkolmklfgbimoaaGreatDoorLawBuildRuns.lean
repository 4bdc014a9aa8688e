/- The row and the card of BuildRuns: with any input of its kinds the law returns true and leaves its arguments as they were. No condition but the variables of Go's library that the card lays. -/
import Derived.Test.YtkolmklfgbimoaaGreatDoorCards
import Derived.Test.YtkolmklfgbimoaaGreatDoorTie
import Derived.Test.YtkolmklfgbimoaaGreatDoorM9
import Derived.WalkKit
import Derived.ProofKit
import Derived.OpenShut
import Derived.ShutString
import Derived.ChangeOld
import Derived.Below
import Derived.Carry
import Derived.SizedLaws
import Derived.Lay
import Derived.SevenTiedAt
import Derived.Stop.Joined
import Derived.Lib.SmallJoins
namespace Go.Proofs.YtkolmklfgbimoaaGreatDoor.buildRuns
open Go.ChangeShapes Go.WideShapes Go.ChangeAt Go.RowKit Go.Joins Go.Deep Go.Sx
open Go.ChangeMaps (open_string shut_string)
set_option linter.unusedVariables false
theorem own : ownKnob Tryz.prog.godebug = none := by kernel_rfl
theorem laidOut : laidOutB Tryz.prog = true := by kernel_rfl
theorem cellsE3 : Tryz.prog.cellsOf 3 = 1 := by kernel_rfl
theorem bytesE3 : Tryz.prog.bytesOf 3 = 8 := by kernel_rfl
set_option maxRecDepth 100000 in
theorem lifted (os : Os) (started : os.Started) (H : Type) (enc : TypeId × Value → H) :
    ReturnsInHanded {} Tryz.checked os 6 .any (fun w args => (Rows.buildRunsSpec.pre enc Tryz.prog Tryz.f6 Rows.buildRunsRow.domain false w args ∧ laidMetH Tryz.prog laidL w) ∧ sizedMet enc Tryz.prog Tryz.f6 (OpenSpec.ofChange Rows.buildRunsSpec) false w args)
      (Rows.buildRunsSpec.post enc Tryz.prog Tryz.f6 false true false false) := by
  refine handed_door (C := Tryz.checked) (X := fun w _ => laidMetH Tryz.prog laidL w) (fun _ _ _ hh h => h.of_heap hh) own started (by kernel_rfl) Tryz.func6
    (ChangeSpec.witness_shaped (enc := enc) (C := Tryz.checked) (os := os) (X := fun w _ => laidMetH Tryz.prog laidL w) false (World.laidAll Tryz.prog os laidL) #[.agg #[.slice none 0 0, .int .i64 0, .slice none 0 0, .int .i64 0], .slice none 0 0, .int .i64 0] 8 (World.laidAll_os _ _ _)
      (World.shaped_of_ZipB (by kernel_rfl) (by kernel_rfl)) (by kernel_rfl) (by kernel_rfl) (by kernel_rfl)
      (by rw [MakeChecks.laidMetH_plain _ _ _ (by kernel_rfl)]; exact laidMet_laidAll _ (by kernel_rfl) (by kernel_rfl))) ?_
  intro W base args ds gs before hval0 hW hcnd hsz0 hL hshp _
  have hval : ∀ (j : Nat) t v, Tryz.f6.params[j]? = some t → args[j]? = some v → Value.okWide Tryz.prog W .any base t v := hval0
  have hW' := hW
  obtain ⟨p, q, hA0, hV, rfl, hfz, hnd⟩ := hW
  have hA : DataW.TrodAll enc Tryz.prog W 0 (fun _ => true) true Tryz.f6.params.toList args.toList ds p := hA0
  rw [Tryz.params6] at hA hval hsz0
  obtain ⟨v0, vs0, d0, ds0, p0, q0, hargs, rfl, rfl, h0, r0⟩ := trodAll_cons hA
  obtain ⟨v1, vs1, d1, ds1, p1, q1, rfl, rfl, rfl, h1, r1⟩ := trodAll_cons r0
  obtain ⟨v2, vs2, d2, ds2, p2, q2, rfl, rfl, rfl, h2, r2⟩ := trodAll_cons r1
  obtain ⟨rfl, rfl, rfl⟩ := trodAll_nil r2
  obtain rfl : args = #[v0, v1, v2] := by cases args; simp_all
  obtain ⟨rfl, rfl⟩ := trodVars_none hV
  have h0k := h0
  have hlt0 : ∀ x ∈ p0, x.block < W.heap.size := fun x hx => hW'.lt x (by simp [hx])
  have h1k := h1
  have hlt1 : ∀ x ∈ p1, x.block < W.heap.size := fun x hx => hW'.lt x (by simp [hx])
  have h2k := h2
  have hlt2 : ∀ x ∈ p2, x.block < W.heap.size := fun x hx => hW'.lt x (by simp [hx])
  obtain ⟨o0, rfl, hok0, see0⟩ := arg_structW Tryz.underlying28 decBt (hval 0 28 v0 rfl rfl) h0 (light_arg (j := 0) hsz0 rfl rfl)
  obtain ⟨a1, c1, l1, rfl, hc1, hm1, hb1, hok1, see1⟩ := arg_sliceW (cells := i64V) (sz := 1) (bz := 8) Tryz.underlying41 cellsE3 bytesE3 (by decide) (fun _ => rfl) (decW_of (dec_int Tryz.underlying3)) (hval 1 41 v1 rfl rfl) h1 (light_arg (j := 1) hsz0 rfl rfl)
  obtain ⟨s2, rfl, hi2⟩ := arg_int Tryz.underlying3 (hval 2 3 v2 rfl rfl) h2
  clear hA0 hval0 hsz0
  obtain ⟨m, ev, ev2, he1, he2, hva⟩ := va_seen hL hshp
  refine (FnC.law (runs_row o0 a1 c1 l1 s2 hok0 (by omega)) (w := W) ⟨see0.1, ⟨see0.2.1, ⟨see1.1, hva⟩⟩⟩).mono fun e W' ⟨he, bel⟩ => ?_
  subst he
  exact ⟨_, rfl, _, _, _, [], _, [], hW', trodAll_mk1 (shut_bool Tryz.underlying4 _), (trodAll_cons_mk (Below.trod laidOut (by kernel_rfl) (of_decide_eq_true (by kernel_rfl)) h0k bel hlt0) (trodAll_cons_mk (Below.trod laidOut (by kernel_rfl) (of_decide_eq_true (by kernel_rfl)) h1k bel hlt1) (trodAll_cons_mk (Below.trod laidOut (by kernel_rfl) (of_decide_eq_true (by kernel_rfl)) h2k bel hlt2) trodAll_mk0))), rfl, bel.frame _, fun h => by cases h⟩
theorem jk0 : (Rows.buildRunsRow.wf (OpenSpec.ofChange Rows.buildRunsSpec)) = true := by kernel_rfl
theorem jk1 : (laidOutB Tryz.pinned.checked.prog) = true := by kernel_rfl
theorem jk2 : (mapsRowed Tryz.pinned.checked.prog) = true := by kernel_rfl
theorem jk3 : (Tryz.f6.params.all (Tryz.pinned.checked.prog.readableRec ·)) = true := by kernel_rfl
theorem jk4 : (namedTie Tryz.pinned.checked.prog Rows.buildRunsRow.named Rows.buildRunsSpec.vars) = true := by kernel_rfl
theorem jk5 : ((Rows.buildRunsRow.stops == [])) = true := by kernel_rfl
theorem jk6 : ((Tryz.pinned.checked.prog.stops == [])) = true := by kernel_rfl
theorem jk7 : ((Rows.buildRunsRow.knobs == [])) = true := by kernel_rfl
theorem jk8 : ((Tryz.pinned.checked.prog.stopKnobs == [])) = true := by kernel_rfl
theorem jk9 : ((Rows.buildRunsRow.inPlace == Tryz.pinned.checked.prog.inPlace 6)) = true := by kernel_rfl
theorem jk10 : ((Rows.buildRunsRow.unfollowed == Tryz.pinned.checked.prog.unfollowed 6)) = true := by kernel_rfl
theorem jk11 : ((Rows.buildRunsRow.recurses == Tryz.pinned.checked.prog.recurses 6)) = true := by kernel_rfl
theorem jk12 : ((Rows.buildRunsRow.named == Tryz.pinned.checked.prog.varsNamed 6)) = true := by kernel_rfl
theorem jk13 : ((Rows.buildRunsRow.maps == (Tryz.f6.params.toList ++ Rows.buildRunsSpec.plain.varTypes Tryz.pinned.checked.prog).any (Tryz.pinned.checked.prog.mapsRec ·))) = true := by kernel_rfl
theorem jk14 : ((Rows.buildRunsRow.ifaces == (Tryz.f6.params.toList ++ Rows.buildRunsSpec.plain.varTypes Tryz.pinned.checked.prog).any (Tryz.pinned.checked.prog.ifacesRec ·))) = true := by kernel_rfl
theorem jk15 : ((Rows.buildRunsRow.mapsOut == Tryz.pinned.checked.prog.mapsAmong Tryz.f6.resultTypes.toList)) = true := by kernel_rfl
theorem jk16 : ((Rows.buildRunsRow.loops == (Tryz.f6.params.toList ++ Rows.buildRunsSpec.plain.varTypes Tryz.pinned.checked.prog).any (Tryz.pinned.checked.prog.loopsFrom ·))) = true := by kernel_rfl
theorem jk17 : ((Rows.buildRunsRow.wideKeys == (Tryz.f6.params.toList ++ Rows.buildRunsSpec.plain.varTypes Tryz.pinned.checked.prog ++ Tryz.f6.resultTypes.toList).any (Tryz.pinned.checked.prog.wideKeysFrom ·))) = true := by kernel_rfl
theorem jk18 : (Rows.buildRunsSpec.vars.all (Tryz.pinned.checked.prog.varReadable ·)) = true := by kernel_rfl
theorem jk19 : (Tryz.f6.resultTypes.all (fun t => Tryz.pinned.checked.prog.readableRec t && decide (t < Tryz.pinned.checked.prog.types.size))) = true := by kernel_rfl
theorem jk20 : ((Rows.buildRunsRow.ifacesOut == Tryz.f6.resultTypes.toList.any (Tryz.pinned.checked.prog.ifacesRec ·))) = true := by kernel_rfl
theorem jk21 : ((Rows.buildRunsRow.loopsOut == Tryz.f6.resultTypes.toList.any (Tryz.pinned.checked.prog.loopsFrom ·))) = true := by kernel_rfl
theorem jk22 : ((Rows.buildRunsRow.plainKeys == Tryz.pinned.checked.prog.plainKeys)) = true := by kernel_rfl
theorem jk23 : (Rows.buildRunsRow.shortTexts.isNone) = true := by kernel_rfl
theorem jk24 : (Tryz.pinned.checked.prog.stopsHeard) = true := by kernel_rfl
theorem jk25 : (Tryz.pinned.checked.prog.mayEnter) = true := by kernel_rfl
theorem jk26 : ((Rows.buildRunsRow.lifted == Tryz.pinned.checked.prog.liftsFinal)) = true := by kernel_rfl
theorem jk27 : ((Tryz.pinned.checked.prog.make == some Rows.buildRunsRow.make)) = true := by kernel_rfl
theorem jk28 : ((Rows.buildRunsRow.kinds == (if Rows.buildRunsRow.domain.isEmpty then [] else Tryz.f6.params.toList.map fun t => match Tryz.pinned.checked.prog.underlying t with | some (.int k) => some k | _ => none))) = true := by kernel_rfl
theorem jk29 : ((Rows.buildRunsRow.pinned == Rows.buildRunsRow.pinnedBy)) = true := by kernel_rfl
theorem jk30 : ((Rows.buildRunsRow.veiled == (Tryz.f6.params.toList ++ Rows.buildRunsSpec.plain.varTypes Tryz.pinned.checked.prog ++ Tryz.f6.resultTypes.toList).any (Tryz.pinned.checked.prog.veiledRec ·))) = true := by kernel_rfl
theorem jk31 : (Rows.buildRunsRow.veiledFits Tryz.pinned.checked.prog Tryz.f6.params.toList (Tryz.f6.params.toList ++ Rows.buildRunsSpec.plain.varTypes Tryz.pinned.checked.prog ++ Tryz.f6.resultTypes.toList)) = true := by kernel_rfl
set_option maxRecDepth 100000 in
theorem joined : joinedFacts Tryz.pinned.checked.prog 6 Tryz.f6 Rows.buildRunsSpec Rows.buildRunsRow = true := by
  unfold joinedFacts
  exact (Bool.and_eq_true_iff.2 ⟨(Bool.and_eq_true_iff.2 ⟨(Bool.and_eq_true_iff.2 ⟨(Bool.and_eq_true_iff.2 ⟨(Bool.and_eq_true_iff.2 ⟨(Bool.and_eq_true_iff.2 ⟨(Bool.and_eq_true_iff.2 ⟨(Bool.and_eq_true_iff.2 ⟨(Bool.and_eq_true_iff.2 ⟨(Bool.and_eq_true_iff.2 ⟨(Bool.and_eq_true_iff.2 ⟨(Bool.and_eq_true_iff.2 ⟨(Bool.and_eq_true_iff.2 ⟨(Bool.and_eq_true_iff.2 ⟨(Bool.and_eq_true_iff.2 ⟨(Bool.and_eq_true_iff.2 ⟨(Bool.and_eq_true_iff.2 ⟨(Bool.and_eq_true_iff.2 ⟨(Bool.and_eq_true_iff.2 ⟨(Bool.and_eq_true_iff.2 ⟨(Bool.and_eq_true_iff.2 ⟨(Bool.and_eq_true_iff.2 ⟨(Bool.and_eq_true_iff.2 ⟨(Bool.and_eq_true_iff.2 ⟨(Bool.and_eq_true_iff.2 ⟨(Bool.and_eq_true_iff.2 ⟨(Bool.and_eq_true_iff.2 ⟨(Bool.and_eq_true_iff.2 ⟨(Bool.and_eq_true_iff.2 ⟨(Bool.and_eq_true_iff.2 ⟨(Bool.and_eq_true_iff.2 ⟨jk0, jk1⟩), jk2⟩), jk3⟩), jk4⟩), jk5⟩), jk6⟩), jk7⟩), jk8⟩), jk9⟩), jk10⟩), jk11⟩), jk12⟩), jk13⟩), jk14⟩), jk15⟩), jk16⟩), jk17⟩), jk18⟩), jk19⟩), jk20⟩), jk21⟩), jk22⟩), jk23⟩), jk24⟩), jk25⟩), jk26⟩), jk27⟩), jk28⟩), jk29⟩), jk30⟩), jk31⟩)
theorem over : Rows.buildRunsRow.holds Tryz.pinned (OpenSpec.ofChange Rows.buildRunsSpec) :=
  OpenClaim.holds_of_wide 6 Tryz.f6 rfl rfl rfl rfl rfl rfl rfl ⟨rfl, rfl, rfl, rfl, rfl⟩ rfl rfl rfl rfl rfl (by kernel_rfl) Tryz.func6 joined
    (of_decide_eq_true (by kernel_rfl)) (by unfold Func.isWrapper; first | (rw [if_pos (by decide +kernel)]; kernel_rfl) | (rw [if_neg (by decide +kernel)]; exact ⟨rfl, rfl⟩))
    (fun os started H enc _ => lifted os started H enc)
theorem proved : Rows.BuildRunsCardSaid :=
  Claim7.holds_tied_plain_at .later [] [.listed, .data] true (true, "89ac176c5073a06bfb41e9a9c1b46b7c2722c58b72c43670d0ed7b5182b8db16") false over (fun _ h => by cases h) (by kernel_rfl) (fun _ h => by cases h) buildRuns_row_tie rfl ⟨rfl, rfl⟩ (by kernel_rfl) rfl
    (fun f fn hf hfn => by
      obtain rfl : f = 6 := Option.some.inj ((show Tryz.prog.funcNamed "delayslot/delayslotlaw20.BuildRuns" = some 6 by kernel_rfl).symm.trans hf) |>.symm
      obtain rfl : fn = Tryz.f6 := (Option.some.inj (Tryz.func6.symm.trans hfn)).symm
      exact ⟨by kernel_rfl, fun j t ht => by
        rw [Tryz.params6] at ht
        have hm : t ∈ [28, 41, 3] := by simpa using Array.mem_of_getElem? ht
        have hall : ([28, 41, 3].all fun u => !Tryz.prog.wantsStandIn u) = true := by kernel_rfl
        exact (show Tryz.prog.wantsStandIn t = false by simpa using List.all_eq_true.1 hall t hm)⟩)
    (by kernel_rfl)
#print axioms proved
end Go.Proofs.YtkolmklfgbimoaaGreatDoor.buildRuns
namespace Go.Proofs.YtkolmklfgbimoaaGreatDoor
/-- The card, under a short name, for the claim. -/
theorem buildRuns_holds : Rows.BuildRunsCardSaid := buildRuns.proved
end Go.Proofs.YtkolmklfgbimoaaGreatDoor

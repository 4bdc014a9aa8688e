-- PRINTED BY print.sh 35421559b90ae4d0a3588c463048766b98c2df88dd9212a6774a882060cdf62d: not written by this session
import Derived.Test.YtnodlolicndopaaPIsaEncodesx0
import Derived.Test.YtnodlolicndopaaPIsaEncodesx3
namespace Go.Proofs.Ytnodlolicndopaa.PIsaEncodes
open Go.RowKit Go.Proofs.YtnodlolicndopaaW.PrintWords Go.Proofs.YtnodlolicndopaaW.PrintLast Go.Proofs.YtnodlolicndopaaW.PrintMore
attribute [local go_sem] max2_int min2_int max_two min_two max_three min_three max_four min_four   -- for this text's walks alone
set_option linter.unusedVariables false
set_option linter.unusedSimpArgs false

/-! ### delayslotref02_Right: function 10 -/
mutual
def delayslotref02_Right.l0 : Nat → Int → List Int → Int → Int → Int → Int → Int → Int → Option (Bool)
  | 0, _, _, _, _, _, _, _, _ => none
  | k + 1, x3, x4, x5, x122000, x122001, x122002, x122003, x122004 => if x5 < 3 then (if (Int.tmod x3 2) = 0 then (if 0 ≤ x5 then (if x5 < (x4.length : Int) then (if (rd x4 x5) = 0 then (if (rd x4 x5) < 0 then (some false) else (if (rd x4 x5) > 31 then (some false) else (delayslotref02_Right.l0 k (wrap64 (Int.tdiv x3 2)) x4 (wrap64 (x5 + 1)) x122000 x122001 x122002 x122003 x122004))) else (some false)) else (none)) else (none)) else (if 0 ≤ x5 then (if x5 < (x4.length : Int) then (if (rd x4 x5) < 0 then (some false) else (if (rd x4 x5) > 31 then (some false) else (delayslotref02_Right.l0 k (wrap64 (Int.tdiv x3 2)) x4 (wrap64 (x5 + 1)) x122000 x122001 x122002 x122003 x122004))) else (none)) else (none))) else (if x122000 = 14 then (delayslotref02_Right.j1 k x3 0 32767 x122000 x122001 x122002 x122003 x122004) else (delayslotref02_Right.j1 k x3 (-32768) 32767 x122000 x122001 x122002 x122003 x122004))
def delayslotref02_Right.j1 : Nat → Int → Int → Int → Int → Int → Int → Int → Int → Option (Bool)
  | 0, _, _, _, _, _, _, _, _ => none
  | k + 1, x3, x6, x7, x122000, x122001, x122002, x122003, x122004 => if x122000 = 17 then (delayslotref02_Right.j2 k x3 x6 x7 true x122000 x122001 x122002 x122003 x122004) else (delayslotref02_Right.j2 k x3 x6 x7 (x122000 == 18) x122000 x122001 x122002 x122003 x122004)
def delayslotref02_Right.j2 : Nat → Int → Int → Int → Bool → Int → Int → Int → Int → Int → Option (Bool)
  | 0, _, _, _, _, _, _, _, _, _ => none
  | k + 1, x3, x6, x7, x60, x122000, x122001, x122002, x122003, x122004 => if x60 = true then (if x122000 = 20 then (if x122004 ≥ 0 then (if x122004 ≤ 2 then (if x3 = 1 then (some true) else (some (x122004 == 0))) else (some false)) else (some false)) else (if x122004 ≥ 0 then (if x122004 ≤ 4096 then (if x3 = 1 then (some true) else (some (x122004 == 0))) else (some false)) else (some false))) else (if x122000 = 20 then (if x122004 ≥ 0 then (if x122004 ≤ 2 then (if x3 = 1 then (some true) else (some (x122004 == 0))) else (some false)) else (some false)) else (if x122004 ≥ x6 then (if x122004 ≤ x7 then (if x3 = 1 then (some true) else (some (x122004 == 0))) else (some false)) else (some false)))
end
def delayslotref02_Right.f (k : Nat) (a0_0 : Int) (a0_1 : Int) (a0_2 : Int) (a0_3 : Int) (a0_4 : Int) : Option (Bool) := (delayslotref02_shape.f a0_0).bind fun t122 => (if t122 < 0 then (some false) else (delayslotref02_Right.l0 k t122 (([a0_1, a0_2, a0_3] : List Int)) 0 a0_0 a0_1 a0_2 a0_3 a0_4))
theorem delayslotref02_Right.mono_l : ∀ k, (∀ y0 y1 y2 y3 y4 y5 y6 y7, LeO (delayslotref02_Right.l0 k y0 y1 y2 y3 y4 y5 y6 y7) (delayslotref02_Right.l0 (k + 1) y0 y1 y2 y3 y4 y5 y6 y7)) ∧ (∀ y0 y1 y2 y3 y4 y5 y6 y7, LeO (delayslotref02_Right.j1 k y0 y1 y2 y3 y4 y5 y6 y7) (delayslotref02_Right.j1 (k + 1) y0 y1 y2 y3 y4 y5 y6 y7)) ∧ (∀ y0 y1 y2 y3 y4 y5 y6 y7 y8, LeO (delayslotref02_Right.j2 k y0 y1 y2 y3 y4 y5 y6 y7 y8) (delayslotref02_Right.j2 (k + 1) y0 y1 y2 y3 y4 y5 y6 y7 y8))
  | 0 => ⟨fun _ _ _ _ _ _ _ _ r h => by simp [delayslotref02_Right.l0] at h, fun _ _ _ _ _ _ _ _ r h => by simp [delayslotref02_Right.j1] at h, fun _ _ _ _ _ _ _ _ _ r h => by simp [delayslotref02_Right.j2] at h⟩
  | k + 1 => by
    obtain ⟨ih0, ih1, ih2⟩ := delayslotref02_Right.mono_l k
    refine ⟨?_, ?_, ?_⟩
    · intro y0 y1 y2 y3 y4 y5 y6 y7
      unfold delayslotref02_Right.l0
      repeat' first
      | (with_reducible exact ih0 _ _ _ _ _ _ _ _)
      | (with_reducible exact ih1 _ _ _ _ _ _ _ _)
      | (with_reducible exact ih2 _ _ _ _ _ _ _ _ _)
      | (with_reducible exact LeO.refl _)
      | (with_reducible exact LeO.none _)
      | (with_reducible refine LeO.ite ?_ ?_)
      | (with_reducible refine LeO.bind ?_ (fun _ => ?_))
      | exact ih0 _ _ _ _ _ _ _ _
      | exact ih1 _ _ _ _ _ _ _ _
      | exact ih2 _ _ _ _ _ _ _ _ _
      | exact LeO.none _
      | refine LeO.ite ?_ ?_
      | refine LeO.bind ?_ (fun _ => ?_)
    · intro y0 y1 y2 y3 y4 y5 y6 y7
      unfold delayslotref02_Right.j1
      repeat' first
      | (with_reducible exact ih0 _ _ _ _ _ _ _ _)
      | (with_reducible exact ih1 _ _ _ _ _ _ _ _)
      | (with_reducible exact ih2 _ _ _ _ _ _ _ _ _)
      | (with_reducible exact LeO.refl _)
      | (with_reducible exact LeO.none _)
      | (with_reducible refine LeO.ite ?_ ?_)
      | (with_reducible refine LeO.bind ?_ (fun _ => ?_))
      | exact ih0 _ _ _ _ _ _ _ _
      | exact ih1 _ _ _ _ _ _ _ _
      | exact ih2 _ _ _ _ _ _ _ _ _
      | exact LeO.none _
      | refine LeO.ite ?_ ?_
      | refine LeO.bind ?_ (fun _ => ?_)
    · intro y0 y1 y2 y3 y4 y5 y6 y7 y8
      unfold delayslotref02_Right.j2
      repeat' first
      | (with_reducible exact ih0 _ _ _ _ _ _ _ _)
      | (with_reducible exact ih1 _ _ _ _ _ _ _ _)
      | (with_reducible exact ih2 _ _ _ _ _ _ _ _ _)
      | (with_reducible exact LeO.refl _)
      | (with_reducible exact LeO.none _)
      | (with_reducible refine LeO.ite ?_ ?_)
      | (with_reducible refine LeO.bind ?_ (fun _ => ?_))
      | exact ih0 _ _ _ _ _ _ _ _
      | exact ih1 _ _ _ _ _ _ _ _
      | exact ih2 _ _ _ _ _ _ _ _ _
      | exact LeO.none _
      | refine LeO.ite ?_ ?_
      | refine LeO.bind ?_ (fun _ => ?_)
theorem delayslotref02_Right.mono : ∀ a0 a1 a2 a3 a4 k, LeO (delayslotref02_Right.f k a0 a1 a2 a3 a4) (delayslotref02_Right.f (k + 1) a0 a1 a2 a3 a4) := by
  intro a0 a1 a2 a3 a4 k
  obtain ⟨ih0, ih1, ih2⟩ := delayslotref02_Right.mono_l k
  unfold delayslotref02_Right.f
  repeat' first
      | (with_reducible exact ih0 _ _ _ _ _ _ _ _)
      | (with_reducible exact ih1 _ _ _ _ _ _ _ _)
      | (with_reducible exact ih2 _ _ _ _ _ _ _ _ _)
      | (with_reducible exact LeO.refl _)
      | (with_reducible exact LeO.none _)
      | (with_reducible refine LeO.ite ?_ ?_)
      | (with_reducible refine LeO.bind ?_ (fun _ => ?_))
      | exact ih0 _ _ _ _ _ _ _ _
      | exact ih1 _ _ _ _ _ _ _ _
      | exact ih2 _ _ _ _ _ _ _ _ _
      | exact LeO.none _
      | refine LeO.ite ?_ ?_
      | refine LeO.bind ?_ (fun _ => ?_)
set_option maxHeartbeats 8000000 in
set_option maxRecDepth 100000 in
theorem delayslotref02_Right.calls (k : Nat) (a0_0 : Int) (a0_1 : Int) (a0_2 : Int) (a0_3 : Int) (a0_4 : Int) (r : Bool) (w : World) (h : delayslotref02_Right.f k a0_0 a0_1 a0_2 a0_3 a0_4 = some r) :
    Calls Try.prog 10 #[.agg #[.int .i64 a0_0, .int .i64 a0_1, .int .i64 a0_2, .int .i64 a0_3, .int .i64 a0_4]] w fun e w' => e = .returned (.bool r) ∧ Below w.heap.size w w' := by
  have hu23 := Try.underlying23
  have HB := Aside0.mk (Below.refl w.heap.size w)
  have H : ((delayslotref02_shape.f a0_0).bind fun t122 => (if t122 < 0 then (some false) else (delayslotref02_Right.l0 k t122 (([a0_1, a0_2, a0_3] : List Int)) 0 a0_0 a0_1 a0_2 a0_3 a0_4))) = some r := h
  clear h
  replace H := Option.bind_eq_some_iff.mp H
  obtain ⟨t122, A20, H⟩ := H
  replace H : (if t122 < 0 then (some false) else (delayslotref02_Right.l0 k t122 (([a0_1, a0_2, a0_3] : List Int)) 0 a0_0 a0_1 a0_2 a0_3 a0_4)) = some r := H
  have A2 := Aside0.mk A20
  clear A20
  by_cases c3 : t122 < 0
  · rw [if_pos c3] at H
    have c3b0 : decide (t122 < 0) = true := decide_eq_true c3
    clear c3
    obtain rfl := Option.some.inj H
    go_enter Try.func10, Try.ntmps10
    go_wp2_with (first | ((with_reducible refine gate_dst (N := 1) rfl ?_); refine box_event ?hg (N := 1) ?hd (cs := #[.int .i64 a0_0, .int .i64 a0_1, .int .i64 a0_2, .int .i64 a0_3, .int .i64 a0_4]) (t := 23) ?hr ?_; (case hd => rfl); (case hg => rfl); (case hr => first | (go_simp; done) | (go_simp; rfl)); intro gb121 hg w4 hbox hb; have n0_ := Aside0.mk (below_step (by repeat (first | (with_reducible first | exact HB.out | apply below_alloc | apply pw_below_drewN | apply below_drew1) | exact HB.out)) hb); have n1_ := Aside0.mk (hbox); have n2_ := Aside0.mk ((by rw [hg]; exact (below_size (by repeat (first | (with_reducible first | exact HB.out | apply below_alloc | apply pw_below_drewN | apply below_drew1) | exact HB.out))) : w.heap.size ≤ gb121)); have n3_ := Aside0.mk ((by rw [hg]; exact (below_size (by repeat (first | (with_reducible first | exact HB.out | apply below_alloc | apply pw_below_drewN | apply below_drew1) | exact HB.out))) : w.heap.size ≤ gb121)); clear HB; have HB := n0_; have BK121 := n1_; have GW121 := n2_; have GE121 := n3_; clear n0_ n1_ n2_ n3_; clear hb hbox hg; have hcz5_0 : w4.cell? ⟨gb121, 0, none⟩ = some (.int .i64 a0_0) := (blk_cell BK121.out 0).trans rfl; have hcz5_1 : w4.cell? ⟨gb121, 1, none⟩ = some (.int .i64 a0_1) := (blk_cell BK121.out 1).trans rfl; have hcz5_2 : w4.cell? ⟨gb121, 2, none⟩ = some (.int .i64 a0_2) := (blk_cell BK121.out 2).trans rfl; have hcz5_3 : w4.cell? ⟨gb121, 3, none⟩ = some (.int .i64 a0_3) := (blk_cell BK121.out 3).trans rfl; have hcz5_4 : w4.cell? ⟨gb121, 4, none⟩ = some (.int .i64 a0_4) := (blk_cell BK121.out 4).trans rfl; have hfz5_0 := blk_frozen BK121.out 0; have hfz5_1 := blk_frozen BK121.out 1; have hfz5_2 := blk_frozen BK121.out 2; have hfz5_3 := blk_frozen BK121.out 3; have hfz5_4 := blk_frozen BK121.out 4) | ((with_reducible refine gate_callee (f := 16) rfl ?_); refine goesL_ (some 10) rfl rfl Try.func16 (by kernel_rfl) rfl #[.int .i64 a0_0] rfl (by (try simp only [List.map_toArray, List.map_cons, List.map_nil]); first | done | rfl | (simp only [List.length_drop, List.length_take]; rfl)) ?_; (with_reducible refine (delayslotref02_shape.calls a0_0 t122 _ A2.out).mono ?_); rintro e w6 ⟨rfl, hb⟩; refine ⟨_, rfl, ?_⟩; have n0_ := Aside0.mk (blk_below (g := gb121) (o := .cells #[.int .i64 a0_0, .int .i64 a0_1, .int .i64 a0_2, .int .i64 a0_3, .int .i64 a0_4] 23 (0, 0)) (by (with_reducible repeat (first | refine blk_drewN ?_ _ | refine blk_drew ?_ | refine blk_alloc ?_ _)); exact BK121.out) hb); have n1_ := Aside0.mk (below_step (by repeat (first | (with_reducible first | exact HB.out | apply below_alloc | apply pw_below_drewN | apply below_drew1 | refine below_set ?_ GE121.out) | exact HB.out)) hb); clear BK121; clear HB; have BK121 := n0_; have HB := n1_; clear n0_ n1_; (try clear hb); (try clear hb2); (try clear hk); (try clear hi)))
    go_ret
    exact ⟨by first | rfl | (simp [errW_none, errW_some] <;> rfl) | (simp [*, errW_none, errW_some] <;> rfl), by repeat (first | (with_reducible first | exact HB.out | apply below_alloc | apply pw_below_drewN | apply below_drew1 | refine below_set ?_ GE121.out) | exact HB.out)⟩
  · rw [if_neg c3] at H
    have c3b0 : decide (t122 < 0) = false := decide_eq_false c3
    clear c3
    obtain ⟨y123, hy123⟩ : ∃ y_ : List Int, y_ = (([a0_1, a0_2, a0_3] : List Int)) := ⟨_, rfl⟩
    replace H : (delayslotref02_Right.l0 k t122 y123 0 a0_0 a0_1 a0_2 a0_3 a0_4) = some r := by first | (rw [hy123]; with_reducible exact H) | (have H2_ := (Option.bind_some _ _).symm.trans H; rw [hy123]; with_reducible exact H2_) | (have H2_ := (Option.bind_some _ _).symm.trans H; with_reducible exact H2_) | with_reducible exact H | (rw [hy123]; exact H) | exact H
    have Ny123 := Aside0.mk hy123
    clear hy123
    have H' := Aside0.mk H
    clear H
    go_enter Try.func10, Try.ntmps10
    go_wp2_with (first | ((with_reducible refine gate_dst (N := 1) rfl ?_); refine box_event ?hg (N := 1) ?hd (cs := #[.int .i64 a0_0, .int .i64 a0_1, .int .i64 a0_2, .int .i64 a0_3, .int .i64 a0_4]) (t := 23) ?hr ?_; (case hd => rfl); (case hg => rfl); (case hr => first | (go_simp; done) | (go_simp; rfl)); intro gb121 hg w7 hbox hb; have n0_ := Aside0.mk (below_step (by repeat (first | (with_reducible first | exact HB.out | apply below_alloc | apply pw_below_drewN | apply below_drew1) | exact HB.out)) hb); have n1_ := Aside0.mk (hbox); have n2_ := Aside0.mk ((by rw [hg]; exact (below_size (by repeat (first | (with_reducible first | exact HB.out | apply below_alloc | apply pw_below_drewN | apply below_drew1) | exact HB.out))) : w.heap.size ≤ gb121)); have n3_ := Aside0.mk ((by rw [hg]; exact (below_size (by repeat (first | (with_reducible first | exact HB.out | apply below_alloc | apply pw_below_drewN | apply below_drew1) | exact HB.out))) : w.heap.size ≤ gb121)); clear HB; have HB := n0_; have BK121 := n1_; have GW121 := n2_; have GE121 := n3_; clear n0_ n1_ n2_ n3_; clear hb hbox hg; have hcz8_0 : w7.cell? ⟨gb121, 0, none⟩ = some (.int .i64 a0_0) := (blk_cell BK121.out 0).trans rfl; have hcz8_1 : w7.cell? ⟨gb121, 1, none⟩ = some (.int .i64 a0_1) := (blk_cell BK121.out 1).trans rfl; have hcz8_2 : w7.cell? ⟨gb121, 2, none⟩ = some (.int .i64 a0_2) := (blk_cell BK121.out 2).trans rfl; have hcz8_3 : w7.cell? ⟨gb121, 3, none⟩ = some (.int .i64 a0_3) := (blk_cell BK121.out 3).trans rfl; have hcz8_4 : w7.cell? ⟨gb121, 4, none⟩ = some (.int .i64 a0_4) := (blk_cell BK121.out 4).trans rfl; have hfz8_0 := blk_frozen BK121.out 0; have hfz8_1 := blk_frozen BK121.out 1; have hfz8_2 := blk_frozen BK121.out 2; have hfz8_3 := blk_frozen BK121.out 3; have hfz8_4 := blk_frozen BK121.out 4) | ((with_reducible refine gate_callee (f := 16) rfl ?_); refine goesL_ (some 10) rfl rfl Try.func16 (by kernel_rfl) rfl #[.int .i64 a0_0] rfl (by (try simp only [List.map_toArray, List.map_cons, List.map_nil]); first | done | rfl | (simp only [List.length_drop, List.length_take]; rfl)) ?_; (with_reducible refine (delayslotref02_shape.calls a0_0 t122 _ A2.out).mono ?_); rintro e w9 ⟨rfl, hb⟩; refine ⟨_, rfl, ?_⟩; have n0_ := Aside0.mk (blk_below (g := gb121) (o := .cells #[.int .i64 a0_0, .int .i64 a0_1, .int .i64 a0_2, .int .i64 a0_3, .int .i64 a0_4] 23 (0, 0)) (by (with_reducible repeat (first | refine blk_drewN ?_ _ | refine blk_drew ?_ | refine blk_alloc ?_ _)); exact BK121.out) hb); have n1_ := Aside0.mk (below_step (by repeat (first | (with_reducible first | exact HB.out | apply below_alloc | apply pw_below_drewN | apply below_drew1 | refine below_set ?_ GE121.out) | exact HB.out)) hb); clear BK121; clear HB; have BK121 := n0_; have HB := n1_; clear n0_ n1_; (try clear hb); (try clear hb2); (try clear hk); (try clear hi); have hcz10_0 : w9.cell? ⟨gb121, 0, none⟩ = some (.int .i64 a0_0) := (blk_cell BK121.out 0).trans rfl; have hcz10_1 : w9.cell? ⟨gb121, 1, none⟩ = some (.int .i64 a0_1) := (blk_cell BK121.out 1).trans rfl; have hcz10_2 : w9.cell? ⟨gb121, 2, none⟩ = some (.int .i64 a0_2) := (blk_cell BK121.out 2).trans rfl; have hcz10_3 : w9.cell? ⟨gb121, 3, none⟩ = some (.int .i64 a0_3) := (blk_cell BK121.out 3).trans rfl; have hcz10_4 : w9.cell? ⟨gb121, 4, none⟩ = some (.int .i64 a0_4) := (blk_cell BK121.out 4).trans rfl; have hfz10_0 := blk_frozen BK121.out 0; have hfz10_1 := blk_frozen BK121.out 1; have hfz10_2 := blk_frozen BK121.out 2; have hfz10_3 := blk_frozen BK121.out 3; have hfz10_4 := blk_frozen BK121.out 4) | ((with_reducible refine gate_dst (N := 19) rfl ?_); refine Kd.R_lit (Kd.int .i64) _ 3 ?hg (N := 19) ?hd (xs := ([a0_1, a0_2, a0_3] : List Int)) (inner := [.int .i64 a0_1, .int .i64 a0_2, .int .i64 a0_3]) (ok := fun _ => True) (okp := fun _ => True) ?hr ?hp (fun _ hk => hk) trivial (Below.refl _ _) (Nat.le_refl _) (by simp) ?_; (case hd => rfl); (case hg => rfl); (case hr => first | (go_simp; done) | (go_simp; rfl)); (case hp => exact (Reps.one (show Kd.M (Kd.int .i64) _ _ _ a0_1 [.int .i64 a0_1] from rfl) (Reps.one (show Kd.M (Kd.int .i64) _ _ _ a0_2 [.int .i64 a0_2] from rfl) (Reps.one (show Kd.M (Kd.int .i64) _ _ _ a0_3 [.int .i64 a0_3] from rfl) (Reps.none _ _))))); intro v124 w11 ho12 hb hg_ hnew_; clear hg_ hnew_; (first | rw [← Ny123.out] at ho12 | (simp only [Int.reduceToNat] at ho12; rw [← Ny123.out] at ho12)); have n0_ := Aside0.mk (Kd.R_lower ho12 (below_size (by repeat (first | (with_reducible first | exact HB.out | apply below_alloc | apply pw_below_drewN | apply below_drew1 | refine below_set ?_ GE121.out) | exact HB.out)))); have n1_ := Aside0.mk (blk_below (g := gb121) (o := .cells #[.int .i64 a0_0, .int .i64 a0_1, .int .i64 a0_2, .int .i64 a0_3, .int .i64 a0_4] 23 (0, 0)) (by (with_reducible repeat (first | refine blk_drewN ?_ _ | refine blk_drew ?_ | refine blk_alloc ?_ _)); exact BK121.out) hb); have n2_ := Aside0.mk (below_step (by repeat (first | (with_reducible first | exact HB.out | apply below_alloc | apply pw_below_drewN | apply below_drew1 | refine below_set ?_ GE121.out) | exact HB.out)) hb); clear BK121; clear HB; have HO125 := n0_; have BK121 := n1_; have HB := n2_; clear n0_ n1_ n2_; clear hb ho12))
    go_loopg [3, 5] k (fun kq v3 v5 w' => ∃ (x3_1 : Int) (x5_1 : Int), v3 = .int .i64 x3_1 ∧ v5 = .int .i64 x5_1 ∧ Aside0 (delayslotref02_Right.l0 kq x3_1 y123 x5_1 a0_0 a0_1 a0_2 a0_3 a0_4 = some r) ∧ Aside0 (kq ≤ k) ∧ Aside0 (Kd.R (Kd.int .i64) 3 w' w.heap.size (fun _ => True) v124 y123) ∧ Aside0 (w'.heap[gb121]? = some (.cells #[.int .i64 a0_0, .int .i64 a0_1, .int .i64 a0_2, .int .i64 a0_3, .int .i64 a0_4] 23 (0, 0))) ∧ Aside0 (Below w.heap.size w w'))
    case atStart => exact ⟨(t122), (0), (by first | rfl | (simp; done) | (simp [*]; done)), (by first | rfl | (simp; done) | (simp [*]; done)), H', ⟨Nat.le_refl _⟩, ⟨by (with_reducible repeat (first | apply Kd.R_alloc | apply Kd.R_drewN | apply Kd.R_drew)); exact HO125.out⟩, ⟨by (with_reducible repeat (first | refine blk_drewN ?_ _ | refine blk_drew ?_ | refine blk_alloc ?_ _)); exact BK121.out⟩, ⟨by repeat (first | (with_reducible first | exact HB.out | apply below_alloc | apply pw_below_drewN | apply below_drew1 | refine below_set ?_ GE121.out) | exact HB.out)⟩⟩
    case round =>
      clear H'
      try clear c1
      try clear p2
      try clear c3
      try clear c3b0
      try clear c10
      try clear hcz10_0
      try clear hcz10_1
      try clear hcz10_2
      try clear hcz10_3
      try clear hcz10_4
      try clear hcz5_0
      try clear hcz5_1
      try clear hcz5_2
      try clear hcz5_3
      try clear hcz5_4
      try clear hcz8_0
      try clear hcz8_1
      try clear hcz8_2
      try clear hcz8_3
      try clear hcz8_4
      try clear hfz10_0
      try clear hfz10_1
      try clear hfz10_2
      try clear hfz10_3
      try clear hfz10_4
      try clear hfz5_0
      try clear hfz5_1
      try clear hfz5_2
      try clear hfz5_3
      try clear hfz5_4
      try clear hfz8_0
      try clear hfz8_1
      try clear hfz8_2
      try clear hfz8_3
      try clear hfz8_4
      obtain ⟨x3_1, x5_1, rfl, rfl, HA, HK1, HO_4, BK121, HB⟩ := hrel
      cases gk with
      | zero => exact absurd HA.out (by simp [delayslotref02_Right.l0])
      | succ k1 =>
        have H := HA.out
        clear HA
        simp only [delayslotref02_Right.l0] at H
        by_cases c13 : x5_1 < 3
        · rw [if_pos c13] at H
          have c13b0 : decide (x5_1 < 3) = true := decide_eq_true c13
          clear c13
          by_cases c14 : (Int.tmod x3_1 2) = 0
          · rw [if_pos c14] at H
            have c14b0 : ((Int.tmod x3_1 2) == 0) = true := beq_iff_eq.mpr c14
            have c14b1 : ((Int.tmod x3_1 2) != 0) = false := bne_eq_false_iff_eq.mpr c14
            clear c14
            by_cases c15 : 0 ≤ x5_1
            · rw [if_pos c15] at H
              have c15b0 : decide (0 ≤ x5_1) = true := decide_eq_true c15
              clear c15
              by_cases c16 : x5_1 < (y123.length : Int)
              · rw [if_pos c16] at H
                have c16b0 : decide (x5_1 < (y123.length : Int)) = true := decide_eq_true c16
                clear c16
                by_cases c17 : (rd y123 x5_1) = 0
                · rw [if_pos c17] at H
                  have c17b0 : ((rd y123 x5_1) == 0) = true := beq_iff_eq.mpr c17
                  have c17b1 : ((rd y123 x5_1) != 0) = false := bne_eq_false_iff_eq.mpr c17
                  clear c17
                  by_cases c18 : (rd y123 x5_1) < 0
                  · rw [if_pos c18] at H
                    have c18b0 : decide ((rd y123 x5_1) < 0) = true := decide_eq_true c18
                    clear c18
                    obtain rfl := Option.some.inj H
                    obtain ⟨Ao19, co19, eo19⟩ := Kd.R_slice HO_4.out
                    subst eo19
                    have p126 : 0 ≤ (x5_1 : Int) := of_decide_eq_true (by first | (with_reducible assumption) | assumption)
                    have q126 : x5_1 < (y123.length : Int) := of_decide_eq_true (by first | (with_reducible assumption) | assumption)
                    obtain ⟨ad126, e126, hx126_0⟩ := Kd.at_int (Kd.R_reads' HO_4.out).2.2 x5_1 p126 q126
                    cases e126
                    replace p126 := eq_true p126
                    replace q126 := eq_true q126
                    have p127 : 0 ≤ (x5_1 : Int) := of_decide_eq_true (by first | (with_reducible assumption) | assumption)
                    have q127 : x5_1 < (y123.length : Int) := of_decide_eq_true (by first | (with_reducible assumption) | assumption)
                    obtain ⟨ad127, e127, hx127_0⟩ := Kd.at_int (Kd.R_reads' HO_4.out).2.2 x5_1 p127 q127
                    obtain rfl : ad126 = ad127 := (by injection e127)
                    replace p127 := eq_true p127
                    replace q127 := eq_true q127
                    go_wp2
                    go_ret
                    exact ⟨by first | rfl | (simp [errW_none, errW_some] <;> rfl) | (simp [*, errW_none, errW_some] <;> rfl), by repeat (first | (with_reducible first | exact HB.out | apply below_alloc | apply pw_below_drewN | apply below_drew1 | refine below_set ?_ GE121.out) | exact HB.out)⟩
                  · rw [if_neg c18] at H
                    have c18b0 : decide ((rd y123 x5_1) < 0) = false := decide_eq_false c18
                    clear c18
                    by_cases c20 : (rd y123 x5_1) > 31
                    · rw [if_pos c20] at H
                      have c20b0 : decide (31 < (rd y123 x5_1)) = true := decide_eq_true c20
                      clear c20
                      obtain rfl := Option.some.inj H
                      obtain ⟨Ao21, co21, eo21⟩ := Kd.R_slice HO_4.out
                      subst eo21
                      have p126 : 0 ≤ (x5_1 : Int) := of_decide_eq_true (by first | (with_reducible assumption) | assumption)
                      have q126 : x5_1 < (y123.length : Int) := of_decide_eq_true (by first | (with_reducible assumption) | assumption)
                      obtain ⟨ad126, e126, hx126_0⟩ := Kd.at_int (Kd.R_reads' HO_4.out).2.2 x5_1 p126 q126
                      cases e126
                      replace p126 := eq_true p126
                      replace q126 := eq_true q126
                      have p127 : 0 ≤ (x5_1 : Int) := of_decide_eq_true (by first | (with_reducible assumption) | assumption)
                      have q127 : x5_1 < (y123.length : Int) := of_decide_eq_true (by first | (with_reducible assumption) | assumption)
                      obtain ⟨ad127, e127, hx127_0⟩ := Kd.at_int (Kd.R_reads' HO_4.out).2.2 x5_1 p127 q127
                      obtain rfl : ad126 = ad127 := (by injection e127)
                      replace p127 := eq_true p127
                      replace q127 := eq_true q127
                      have p128 : 0 ≤ (x5_1 : Int) := of_decide_eq_true (by first | (with_reducible assumption) | assumption)
                      have q128 : x5_1 < (y123.length : Int) := of_decide_eq_true (by first | (with_reducible assumption) | assumption)
                      obtain ⟨ad128, e128, hx128_0⟩ := Kd.at_int (Kd.R_reads' HO_4.out).2.2 x5_1 p128 q128
                      obtain rfl : ad126 = ad128 := (by injection e128)
                      replace p128 := eq_true p128
                      replace q128 := eq_true q128
                      go_wp2
                      go_ret
                      exact ⟨by first | rfl | (simp [errW_none, errW_some] <;> rfl) | (simp [*, errW_none, errW_some] <;> rfl), by repeat (first | (with_reducible first | exact HB.out | apply below_alloc | apply pw_below_drewN | apply below_drew1 | refine below_set ?_ GE121.out) | exact HB.out)⟩
                    · rw [if_neg c20] at H
                      have c20b0 : decide (31 < (rd y123 x5_1)) = false := decide_eq_false c20
                      clear c20
                      have H' := Aside0.mk H
                      clear H
                      obtain ⟨Ao22, co22, eo22⟩ := Kd.R_slice HO_4.out
                      subst eo22
                      have p126 : 0 ≤ (x5_1 : Int) := of_decide_eq_true (by first | (with_reducible assumption) | assumption)
                      have q126 : x5_1 < (y123.length : Int) := of_decide_eq_true (by first | (with_reducible assumption) | assumption)
                      obtain ⟨ad126, e126, hx126_0⟩ := Kd.at_int (Kd.R_reads' HO_4.out).2.2 x5_1 p126 q126
                      cases e126
                      replace p126 := eq_true p126
                      replace q126 := eq_true q126
                      have p127 : 0 ≤ (x5_1 : Int) := of_decide_eq_true (by first | (with_reducible assumption) | assumption)
                      have q127 : x5_1 < (y123.length : Int) := of_decide_eq_true (by first | (with_reducible assumption) | assumption)
                      obtain ⟨ad127, e127, hx127_0⟩ := Kd.at_int (Kd.R_reads' HO_4.out).2.2 x5_1 p127 q127
                      obtain rfl : ad126 = ad127 := (by injection e127)
                      replace p127 := eq_true p127
                      replace q127 := eq_true q127
                      have p128 : 0 ≤ (x5_1 : Int) := of_decide_eq_true (by first | (with_reducible assumption) | assumption)
                      have q128 : x5_1 < (y123.length : Int) := of_decide_eq_true (by first | (with_reducible assumption) | assumption)
                      obtain ⟨ad128, e128, hx128_0⟩ := Kd.at_int (Kd.R_reads' HO_4.out).2.2 x5_1 p128 q128
                      obtain rfl : ad126 = ad128 := (by injection e128)
                      replace p128 := eq_true p128
                      replace q128 := eq_true q128
                      go_wp2
                      go_roundg k1
                      case measure => have := HK1.out; omega
                      case rel => exact ⟨(wrap64 (Int.tdiv x3_1 2)), (wrap64 (x5_1 + 1)), (by first | rfl | (simp; done) | (simp [*]; done)), (by first | rfl | (simp; done) | (simp [*]; done)), H', ⟨by have := HK1.out; omega⟩, ⟨by (with_reducible repeat (first | apply Kd.R_alloc | apply Kd.R_drewN | apply Kd.R_drew)); exact HO_4.out⟩, ⟨by (with_reducible repeat (first | refine blk_drewN ?_ _ | refine blk_drew ?_ | refine blk_alloc ?_ _)); exact BK121.out⟩, ⟨by repeat (first | (with_reducible first | exact HB.out | apply below_alloc | apply pw_below_drewN | apply below_drew1 | refine below_set ?_ GE121.out) | exact HB.out)⟩⟩
                · rw [if_neg c17] at H
                  have c17b0 : ((rd y123 x5_1) == 0) = false := beq_eq_false_iff_ne.mpr c17
                  have c17b1 : ((rd y123 x5_1) != 0) = true := bne_iff_ne.mpr c17
                  obtain rfl := Option.some.inj H
                  obtain ⟨Ao23, co23, eo23⟩ := Kd.R_slice HO_4.out
                  subst eo23
                  have p126 : 0 ≤ (x5_1 : Int) := of_decide_eq_true (by first | (with_reducible assumption) | assumption)
                  have q126 : x5_1 < (y123.length : Int) := of_decide_eq_true (by first | (with_reducible assumption) | assumption)
                  obtain ⟨ad126, e126, hx126_0⟩ := Kd.at_int (Kd.R_reads' HO_4.out).2.2 x5_1 p126 q126
                  cases e126
                  replace p126 := eq_true p126
                  replace q126 := eq_true q126
                  go_wp2
                  go_ret
                  exact ⟨by first | rfl | (simp [errW_none, errW_some] <;> rfl) | (simp [*, errW_none, errW_some] <;> rfl), by repeat (first | (with_reducible first | exact HB.out | apply below_alloc | apply pw_below_drewN | apply below_drew1 | refine below_set ?_ GE121.out) | exact HB.out)⟩
              · rw [if_neg c16] at H
                exact absurd H (by simp)
            · rw [if_neg c15] at H
              exact absurd H (by simp)
          · rw [if_neg c14] at H
            have c14b0 : ((Int.tmod x3_1 2) == 0) = false := beq_eq_false_iff_ne.mpr c14
            have c14b1 : ((Int.tmod x3_1 2) != 0) = true := bne_iff_ne.mpr c14
            by_cases c24 : 0 ≤ x5_1
            · rw [if_pos c24] at H
              have c24b0 : decide (0 ≤ x5_1) = true := decide_eq_true c24
              clear c24
              by_cases c25 : x5_1 < (y123.length : Int)
              · rw [if_pos c25] at H
                have c25b0 : decide (x5_1 < (y123.length : Int)) = true := decide_eq_true c25
                clear c25
                by_cases c26 : (rd y123 x5_1) < 0
                · rw [if_pos c26] at H
                  have c26b0 : decide ((rd y123 x5_1) < 0) = true := decide_eq_true c26
                  clear c26
                  obtain rfl := Option.some.inj H
                  obtain ⟨Ao27, co27, eo27⟩ := Kd.R_slice HO_4.out
                  subst eo27
                  have p129 : 0 ≤ (x5_1 : Int) := of_decide_eq_true (by first | (with_reducible assumption) | assumption)
                  have q129 : x5_1 < (y123.length : Int) := of_decide_eq_true (by first | (with_reducible assumption) | assumption)
                  obtain ⟨ad129, e129, hx129_0⟩ := Kd.at_int (Kd.R_reads' HO_4.out).2.2 x5_1 p129 q129
                  cases e129
                  replace p129 := eq_true p129
                  replace q129 := eq_true q129
                  go_wp2
                  go_ret
                  exact ⟨by first | rfl | (simp [errW_none, errW_some] <;> rfl) | (simp [*, errW_none, errW_some] <;> rfl), by repeat (first | (with_reducible first | exact HB.out | apply below_alloc | apply pw_below_drewN | apply below_drew1 | refine below_set ?_ GE121.out) | exact HB.out)⟩
                · rw [if_neg c26] at H
                  have c26b0 : decide ((rd y123 x5_1) < 0) = false := decide_eq_false c26
                  clear c26
                  by_cases c28 : (rd y123 x5_1) > 31
                  · rw [if_pos c28] at H
                    have c28b0 : decide (31 < (rd y123 x5_1)) = true := decide_eq_true c28
                    clear c28
                    obtain rfl := Option.some.inj H
                    obtain ⟨Ao29, co29, eo29⟩ := Kd.R_slice HO_4.out
                    subst eo29
                    have p129 : 0 ≤ (x5_1 : Int) := of_decide_eq_true (by first | (with_reducible assumption) | assumption)
                    have q129 : x5_1 < (y123.length : Int) := of_decide_eq_true (by first | (with_reducible assumption) | assumption)
                    obtain ⟨ad129, e129, hx129_0⟩ := Kd.at_int (Kd.R_reads' HO_4.out).2.2 x5_1 p129 q129
                    cases e129
                    replace p129 := eq_true p129
                    replace q129 := eq_true q129
                    have p130 : 0 ≤ (x5_1 : Int) := of_decide_eq_true (by first | (with_reducible assumption) | assumption)
                    have q130 : x5_1 < (y123.length : Int) := of_decide_eq_true (by first | (with_reducible assumption) | assumption)
                    obtain ⟨ad130, e130, hx130_0⟩ := Kd.at_int (Kd.R_reads' HO_4.out).2.2 x5_1 p130 q130
                    obtain rfl : ad129 = ad130 := (by injection e130)
                    replace p130 := eq_true p130
                    replace q130 := eq_true q130
                    go_wp2
                    go_ret
                    exact ⟨by first | rfl | (simp [errW_none, errW_some] <;> rfl) | (simp [*, errW_none, errW_some] <;> rfl), by repeat (first | (with_reducible first | exact HB.out | apply below_alloc | apply pw_below_drewN | apply below_drew1 | refine below_set ?_ GE121.out) | exact HB.out)⟩
                  · rw [if_neg c28] at H
                    have c28b0 : decide (31 < (rd y123 x5_1)) = false := decide_eq_false c28
                    clear c28
                    have H' := Aside0.mk H
                    clear H
                    obtain ⟨Ao30, co30, eo30⟩ := Kd.R_slice HO_4.out
                    subst eo30
                    have p129 : 0 ≤ (x5_1 : Int) := of_decide_eq_true (by first | (with_reducible assumption) | assumption)
                    have q129 : x5_1 < (y123.length : Int) := of_decide_eq_true (by first | (with_reducible assumption) | assumption)
                    obtain ⟨ad129, e129, hx129_0⟩ := Kd.at_int (Kd.R_reads' HO_4.out).2.2 x5_1 p129 q129
                    cases e129
                    replace p129 := eq_true p129
                    replace q129 := eq_true q129
                    have p130 : 0 ≤ (x5_1 : Int) := of_decide_eq_true (by first | (with_reducible assumption) | assumption)
                    have q130 : x5_1 < (y123.length : Int) := of_decide_eq_true (by first | (with_reducible assumption) | assumption)
                    obtain ⟨ad130, e130, hx130_0⟩ := Kd.at_int (Kd.R_reads' HO_4.out).2.2 x5_1 p130 q130
                    obtain rfl : ad129 = ad130 := (by injection e130)
                    replace p130 := eq_true p130
                    replace q130 := eq_true q130
                    go_wp2
                    go_roundg k1
                    case measure => have := HK1.out; omega
                    case rel => exact ⟨(wrap64 (Int.tdiv x3_1 2)), (wrap64 (x5_1 + 1)), (by first | rfl | (simp; done) | (simp [*]; done)), (by first | rfl | (simp; done) | (simp [*]; done)), H', ⟨by have := HK1.out; omega⟩, ⟨by (with_reducible repeat (first | apply Kd.R_alloc | apply Kd.R_drewN | apply Kd.R_drew)); exact HO_4.out⟩, ⟨by (with_reducible repeat (first | refine blk_drewN ?_ _ | refine blk_drew ?_ | refine blk_alloc ?_ _)); exact BK121.out⟩, ⟨by repeat (first | (with_reducible first | exact HB.out | apply below_alloc | apply pw_below_drewN | apply below_drew1 | refine below_set ?_ GE121.out) | exact HB.out)⟩⟩
              · rw [if_neg c25] at H
                exact absurd H (by simp)
            · rw [if_neg c24] at H
              exact absurd H (by simp)
        · rw [if_neg c13] at H
          have c13b0 : decide (x5_1 < 3) = false := decide_eq_false c13
          clear c13
          have HC31 := Aside0.mk H
          clear H
          have hcz32_0 : wr.cell? ⟨gb121, 0, none⟩ = some (.int .i64 a0_0) := (blk_cell BK121.out 0).trans rfl
          have hcz32_1 : wr.cell? ⟨gb121, 1, none⟩ = some (.int .i64 a0_1) := (blk_cell BK121.out 1).trans rfl
          have hcz32_2 : wr.cell? ⟨gb121, 2, none⟩ = some (.int .i64 a0_2) := (blk_cell BK121.out 2).trans rfl
          have hcz32_3 : wr.cell? ⟨gb121, 3, none⟩ = some (.int .i64 a0_3) := (blk_cell BK121.out 3).trans rfl
          have hcz32_4 : wr.cell? ⟨gb121, 4, none⟩ = some (.int .i64 a0_4) := (blk_cell BK121.out 4).trans rfl
          have hfz32_0 := blk_frozen BK121.out 0
          have hfz32_1 := blk_frozen BK121.out 1
          have hfz32_2 := blk_frozen BK121.out 2
          have hfz32_3 := blk_frozen BK121.out 3
          have hfz32_4 := blk_frozen BK121.out 4
          go_upto_if 52 with (fail)
          go_cut [6] (fun v6 wc => ∃ (kq : Nat) (x6_30 : Int), v6 = .int .i64 x6_30 ∧ Aside0 (delayslotref02_Right.j1 kq x3_1 x6_30 32767 a0_0 a0_1 a0_2 a0_3 a0_4 = some r) ∧ Aside0 (kq ≤ k1) ∧ Aside0 (wc.heap[gb121]? = some (.cells #[.int .i64 a0_0, .int .i64 a0_1, .int .i64 a0_2, .int .i64 a0_3, .int .i64 a0_4] 23 (0, 0))) ∧ Aside0 (Below w.heap.size w wc))
          case first =>
            have H := HC31.out
            clear HC31
            by_cases c33 : a0_0 = 14
            · rw [if_pos c33] at H
              have c33b0 : (a0_0 == 14) = true := beq_iff_eq.mpr c33
              have c33b1 : (a0_0 != 14) = false := bne_eq_false_iff_eq.mpr c33
              clear c33
              (first | rw [c33b0] | (simp only [i64_w, i32_w]; rw [c33b0]) | skip)
              have H' := Aside0.mk H
              clear H
              go_wp2
              go_meet
              case rel => exact ⟨_, (0), (by first | rfl | (simp; done) | (simp [*]; done)), H', ⟨by have := HK1.out; first | omega | exact Nat.le_refl _⟩, ⟨by (with_reducible repeat (first | refine blk_drewN ?_ _ | refine blk_drew ?_ | refine blk_alloc ?_ _)); exact BK121.out⟩, ⟨by repeat (first | (with_reducible first | exact HB.out | apply below_alloc | apply pw_below_drewN | apply below_drew1 | refine below_set ?_ GE121.out) | exact HB.out)⟩⟩
            · rw [if_neg c33] at H
              have c33b0 : (a0_0 == 14) = false := beq_eq_false_iff_ne.mpr c33
              have c33b1 : (a0_0 != 14) = true := bne_iff_ne.mpr c33
              (first | rw [c33b0] | (simp only [i64_w, i32_w]; rw [c33b0]) | skip)
              have H' := Aside0.mk H
              clear H
              go_wp2
              go_meet
              case rel => exact ⟨_, ((-32768)), (by first | rfl | (simp; done) | (simp [*]; done)), H', ⟨by have := HK1.out; first | omega | exact Nat.le_refl _⟩, ⟨by (with_reducible repeat (first | refine blk_drewN ?_ _ | refine blk_drew ?_ | refine blk_alloc ?_ _)); exact BK121.out⟩, ⟨by repeat (first | (with_reducible first | exact HB.out | apply below_alloc | apply pw_below_drewN | apply below_drew1 | refine below_set ?_ GE121.out) | exact HB.out)⟩⟩
          case rest =>
            clear HC31
            try clear c1
            try clear p1
            try clear q1
            try clear hx1
            try clear c2
            try clear p2
            try clear c3
            try clear c3b0
            try clear p6
            try clear c10
            try clear p12
            try clear q12
            try clear hx12
            try clear c13
            try clear c13b0
            try clear p13
            try clear q13
            try clear hx13
            try clear c14
            try clear c14b0
            try clear c14b1
            try clear c15
            try clear c15b0
            try clear c16
            try clear c16b0
            try clear c17
            try clear c17b0
            try clear c17b1
            try clear c18
            try clear c18b0
            try clear c20
            try clear c20b0
            try clear c24
            try clear c24b0
            try clear c25
            try clear c25b0
            try clear c26
            try clear c26b0
            try clear c28
            try clear c28b0
            try clear c33
            try clear c33b0
            try clear c33b1
            try clear hcz10_0
            try clear hcz10_1
            try clear hcz10_2
            try clear hcz10_3
            try clear hcz10_4
            try clear hcz32_0
            try clear hcz32_1
            try clear hcz32_2
            try clear hcz32_3
            try clear hcz32_4
            try clear hcz5_0
            try clear hcz5_1
            try clear hcz5_2
            try clear hcz5_3
            try clear hcz5_4
            try clear hcz8_0
            try clear hcz8_1
            try clear hcz8_2
            try clear hcz8_3
            try clear hcz8_4
            try clear hfz10_0
            try clear hfz10_1
            try clear hfz10_2
            try clear hfz10_3
            try clear hfz10_4
            try clear hfz32_0
            try clear hfz32_1
            try clear hfz32_2
            try clear hfz32_3
            try clear hfz32_4
            try clear hfz5_0
            try clear hfz5_1
            try clear hfz5_2
            try clear hfz5_3
            try clear hfz5_4
            try clear hfz8_0
            try clear hfz8_1
            try clear hfz8_2
            try clear hfz8_3
            try clear hfz8_4
            try clear hx126_0
            try clear hx127_0
            try clear hx128_0
            try clear hx129_0
            try clear hx130_0
            try clear p126
            try clear p127
            try clear p128
            try clear p129
            try clear p130
            try clear p2
            try clear q126
            try clear q127
            try clear q128
            try clear q129
            try clear q130
            obtain ⟨kq, x6_30, rfl, HA, HJ30, BK121, HB⟩ := hcut
            cases kq with
            | zero => exact absurd HA.out (by simp [delayslotref02_Right.j1])
            | succ kj30 =>
              have H := HA.out
              clear HA
              simp only [delayslotref02_Right.j1] at H
              have HC34 := Aside0.mk H
              clear H
              go_upto_region 14 with (fail)
              go_cut [60] (fun v60 wc => ∃ (kq : Nat) (x60_33 : Bool), v60 = .bool x60_33 ∧ Aside0 (delayslotref02_Right.j2 kq x3_1 x6_30 32767 x60_33 a0_0 a0_1 a0_2 a0_3 a0_4 = some r) ∧ Aside0 (kq ≤ kj30) ∧ Aside0 (wc.heap[gb121]? = some (.cells #[.int .i64 a0_0, .int .i64 a0_1, .int .i64 a0_2, .int .i64 a0_3, .int .i64 a0_4] 23 (0, 0))) ∧ Aside0 (Below w.heap.size w wc))
              case first =>
                have H := HC34.out
                clear HC34
                by_cases c35 : a0_0 = 17
                · rw [if_pos c35] at H
                  have c35b0 : (a0_0 == 17) = true := beq_iff_eq.mpr c35
                  have c35b1 : (a0_0 != 17) = false := bne_eq_false_iff_eq.mpr c35
                  clear c35
                  (first | rw [c35b0] | (simp only [i64_w, i32_w]; rw [c35b0]) | skip)
                  have H' := Aside0.mk H
                  clear H
                  have hcz36_0 : wc.cell? ⟨gb121, 0, none⟩ = some (.int .i64 a0_0) := (blk_cell BK121.out 0).trans rfl
                  have hcz36_1 : wc.cell? ⟨gb121, 1, none⟩ = some (.int .i64 a0_1) := (blk_cell BK121.out 1).trans rfl
                  have hcz36_2 : wc.cell? ⟨gb121, 2, none⟩ = some (.int .i64 a0_2) := (blk_cell BK121.out 2).trans rfl
                  have hcz36_3 : wc.cell? ⟨gb121, 3, none⟩ = some (.int .i64 a0_3) := (blk_cell BK121.out 3).trans rfl
                  have hcz36_4 : wc.cell? ⟨gb121, 4, none⟩ = some (.int .i64 a0_4) := (blk_cell BK121.out 4).trans rfl
                  have hfz36_0 := blk_frozen BK121.out 0
                  have hfz36_1 := blk_frozen BK121.out 1
                  have hfz36_2 := blk_frozen BK121.out 2
                  have hfz36_3 := blk_frozen BK121.out 3
                  have hfz36_4 := blk_frozen BK121.out 4
                  go_wp2
                  go_meet
                  case rel => exact ⟨_, (true), (by first | rfl | (simp; done) | (simp [*]; done)), H', ⟨by have := HK1.out; have := HJ30.out; first | omega | exact Nat.le_refl _⟩, ⟨by (with_reducible repeat (first | refine blk_drewN ?_ _ | refine blk_drew ?_ | refine blk_alloc ?_ _)); exact BK121.out⟩, ⟨by repeat (first | (with_reducible first | exact HB.out | apply below_alloc | apply pw_below_drewN | apply below_drew1 | refine below_set ?_ GE121.out) | exact HB.out)⟩⟩
                · rw [if_neg c35] at H
                  have c35b0 : (a0_0 == 17) = false := beq_eq_false_iff_ne.mpr c35
                  have c35b1 : (a0_0 != 17) = true := bne_iff_ne.mpr c35
                  (first | rw [c35b0] | (simp only [i64_w, i32_w]; rw [c35b0]) | skip)
                  have H' := Aside0.mk H
                  clear H
                  have hcz37_0 : wc.cell? ⟨gb121, 0, none⟩ = some (.int .i64 a0_0) := (blk_cell BK121.out 0).trans rfl
                  have hcz37_1 : wc.cell? ⟨gb121, 1, none⟩ = some (.int .i64 a0_1) := (blk_cell BK121.out 1).trans rfl
                  have hcz37_2 : wc.cell? ⟨gb121, 2, none⟩ = some (.int .i64 a0_2) := (blk_cell BK121.out 2).trans rfl
                  have hcz37_3 : wc.cell? ⟨gb121, 3, none⟩ = some (.int .i64 a0_3) := (blk_cell BK121.out 3).trans rfl
                  have hcz37_4 : wc.cell? ⟨gb121, 4, none⟩ = some (.int .i64 a0_4) := (blk_cell BK121.out 4).trans rfl
                  have hfz37_0 := blk_frozen BK121.out 0
                  have hfz37_1 := blk_frozen BK121.out 1
                  have hfz37_2 := blk_frozen BK121.out 2
                  have hfz37_3 := blk_frozen BK121.out 3
                  have hfz37_4 := blk_frozen BK121.out 4
                  go_wp2
                  go_meet
                  case rel => exact ⟨_, ((a0_0 == 18)), (by first | rfl | (simp; done) | (simp [*]; done)), H', ⟨by have := HK1.out; have := HJ30.out; first | omega | exact Nat.le_refl _⟩, ⟨by (with_reducible repeat (first | refine blk_drewN ?_ _ | refine blk_drew ?_ | refine blk_alloc ?_ _)); exact BK121.out⟩, ⟨by repeat (first | (with_reducible first | exact HB.out | apply below_alloc | apply pw_below_drewN | apply below_drew1 | refine below_set ?_ GE121.out) | exact HB.out)⟩⟩
              case rest =>
                clear HC34
                try clear c1
                try clear p1
                try clear q1
                try clear hx1
                try clear c2
                try clear p2
                try clear c3
                try clear c3b0
                try clear p6
                try clear c10
                try clear p12
                try clear q12
                try clear hx12
                try clear c13
                try clear c13b0
                try clear p13
                try clear q13
                try clear hx13
                try clear c14
                try clear c14b0
                try clear c14b1
                try clear c15
                try clear c15b0
                try clear c16
                try clear c16b0
                try clear c17
                try clear c17b0
                try clear c17b1
                try clear c18
                try clear c18b0
                try clear c20
                try clear c20b0
                try clear c24
                try clear c24b0
                try clear c25
                try clear c25b0
                try clear c26
                try clear c26b0
                try clear c28
                try clear c28b0
                try clear c33
                try clear c33b0
                try clear c33b1
                try clear c35
                try clear c35b0
                try clear c35b1
                try clear hcz10_0
                try clear hcz10_1
                try clear hcz10_2
                try clear hcz10_3
                try clear hcz10_4
                try clear hcz32_0
                try clear hcz32_1
                try clear hcz32_2
                try clear hcz32_3
                try clear hcz32_4
                try clear hcz36_0
                try clear hcz36_1
                try clear hcz36_2
                try clear hcz36_3
                try clear hcz36_4
                try clear hcz37_0
                try clear hcz37_1
                try clear hcz37_2
                try clear hcz37_3
                try clear hcz37_4
                try clear hcz5_0
                try clear hcz5_1
                try clear hcz5_2
                try clear hcz5_3
                try clear hcz5_4
                try clear hcz8_0
                try clear hcz8_1
                try clear hcz8_2
                try clear hcz8_3
                try clear hcz8_4
                try clear hfz10_0
                try clear hfz10_1
                try clear hfz10_2
                try clear hfz10_3
                try clear hfz10_4
                try clear hfz32_0
                try clear hfz32_1
                try clear hfz32_2
                try clear hfz32_3
                try clear hfz32_4
                try clear hfz36_0
                try clear hfz36_1
                try clear hfz36_2
                try clear hfz36_3
                try clear hfz36_4
                try clear hfz37_0
                try clear hfz37_1
                try clear hfz37_2
                try clear hfz37_3
                try clear hfz37_4
                try clear hfz5_0
                try clear hfz5_1
                try clear hfz5_2
                try clear hfz5_3
                try clear hfz5_4
                try clear hfz8_0
                try clear hfz8_1
                try clear hfz8_2
                try clear hfz8_3
                try clear hfz8_4
                try clear hx126_0
                try clear hx127_0
                try clear hx128_0
                try clear hx129_0
                try clear hx130_0
                try clear p1
                try clear p12
                try clear p126
                try clear p127
                try clear p128
                try clear p129
                try clear p13
                try clear p130
                try clear p2
                try clear p6
                try clear q1
                try clear q12
                try clear q126
                try clear q127
                try clear q128
                try clear q129
                try clear q13
                try clear q130
                obtain ⟨kq, x60_33, rfl, HA, HJ33, BK121, HB⟩ := hcut
                cases kq with
                | zero => exact absurd HA.out (by simp [delayslotref02_Right.j2])
                | succ kj33 =>
                  have H := HA.out
                  clear HA
                  simp only [delayslotref02_Right.j2] at H
                  by_cases c38 : x60_33 = true
                  · subst c38
                    have H1 : (if a0_0 = 20 then (if a0_4 ≥ 0 then (if a0_4 ≤ 2 then (if x3_1 = 1 then (some true) else (some (a0_4 == 0))) else (some false)) else (some false)) else (if a0_4 ≥ 0 then (if a0_4 ≤ 4096 then (if x3_1 = 1 then (some true) else (some (a0_4 == 0))) else (some false)) else (some false))) = some r := by rw [if_pos rfl] at H; exact H
                    clear H
                    have H := H1
                    clear H1
                    by_cases c39 : a0_0 = 20
                    · rw [if_pos c39] at H
                      have c39b0 : (a0_0 == 20) = true := beq_iff_eq.mpr c39
                      have c39b1 : (a0_0 != 20) = false := bne_eq_false_iff_eq.mpr c39
                      clear c39
                      by_cases c40 : a0_4 ≥ 0
                      · rw [if_pos c40] at H
                        have c40b0 : decide (0 ≤ a0_4) = true := decide_eq_true c40
                        clear c40
                        by_cases c41 : a0_4 ≤ 2
                        · rw [if_pos c41] at H
                          have c41b0 : decide (a0_4 ≤ 2) = true := decide_eq_true c41
                          clear c41
                          by_cases c42 : x3_1 = 1
                          · rw [if_pos c42] at H
                            have c42b0 : (x3_1 == 1) = true := beq_iff_eq.mpr c42
                            have c42b1 : (x3_1 != 1) = false := bne_eq_false_iff_eq.mpr c42
                            clear c42
                            obtain rfl := Option.some.inj H
                            have hcz43_0 : wc.cell? ⟨gb121, 0, none⟩ = some (.int .i64 a0_0) := (blk_cell BK121.out 0).trans rfl
                            have hcz43_1 : wc.cell? ⟨gb121, 1, none⟩ = some (.int .i64 a0_1) := (blk_cell BK121.out 1).trans rfl
                            have hcz43_2 : wc.cell? ⟨gb121, 2, none⟩ = some (.int .i64 a0_2) := (blk_cell BK121.out 2).trans rfl
                            have hcz43_3 : wc.cell? ⟨gb121, 3, none⟩ = some (.int .i64 a0_3) := (blk_cell BK121.out 3).trans rfl
                            have hcz43_4 : wc.cell? ⟨gb121, 4, none⟩ = some (.int .i64 a0_4) := (blk_cell BK121.out 4).trans rfl
                            have hfz43_0 := blk_frozen BK121.out 0
                            have hfz43_1 := blk_frozen BK121.out 1
                            have hfz43_2 := blk_frozen BK121.out 2
                            have hfz43_3 := blk_frozen BK121.out 3
                            have hfz43_4 := blk_frozen BK121.out 4
                            go_wp2
                            go_ret
                            exact ⟨by first | rfl | (simp [errW_none, errW_some] <;> rfl) | (simp [*, errW_none, errW_some] <;> rfl), by repeat (first | (with_reducible first | exact HB.out | apply below_alloc | apply pw_below_drewN | apply below_drew1 | refine below_set ?_ GE121.out) | exact HB.out)⟩
                          · rw [if_neg c42] at H
                            have c42b0 : (x3_1 == 1) = false := beq_eq_false_iff_ne.mpr c42
                            have c42b1 : (x3_1 != 1) = true := bne_iff_ne.mpr c42
                            obtain rfl := Option.some.inj H
                            have hcz44_0 : wc.cell? ⟨gb121, 0, none⟩ = some (.int .i64 a0_0) := (blk_cell BK121.out 0).trans rfl
                            have hcz44_1 : wc.cell? ⟨gb121, 1, none⟩ = some (.int .i64 a0_1) := (blk_cell BK121.out 1).trans rfl
                            have hcz44_2 : wc.cell? ⟨gb121, 2, none⟩ = some (.int .i64 a0_2) := (blk_cell BK121.out 2).trans rfl
                            have hcz44_3 : wc.cell? ⟨gb121, 3, none⟩ = some (.int .i64 a0_3) := (blk_cell BK121.out 3).trans rfl
                            have hcz44_4 : wc.cell? ⟨gb121, 4, none⟩ = some (.int .i64 a0_4) := (blk_cell BK121.out 4).trans rfl
                            have hfz44_0 := blk_frozen BK121.out 0
                            have hfz44_1 := blk_frozen BK121.out 1
                            have hfz44_2 := blk_frozen BK121.out 2
                            have hfz44_3 := blk_frozen BK121.out 3
                            have hfz44_4 := blk_frozen BK121.out 4
                            go_wp2
                            go_ret
                            exact ⟨by first | rfl | (simp [errW_none, errW_some] <;> rfl) | (simp [*, errW_none, errW_some] <;> rfl), by repeat (first | (with_reducible first | exact HB.out | apply below_alloc | apply pw_below_drewN | apply below_drew1 | refine below_set ?_ GE121.out) | exact HB.out)⟩
                        · rw [if_neg c41] at H
                          have c41b0 : decide (a0_4 ≤ 2) = false := decide_eq_false c41
                          clear c41
                          obtain rfl := Option.some.inj H
                          have hcz45_0 : wc.cell? ⟨gb121, 0, none⟩ = some (.int .i64 a0_0) := (blk_cell BK121.out 0).trans rfl
                          have hcz45_1 : wc.cell? ⟨gb121, 1, none⟩ = some (.int .i64 a0_1) := (blk_cell BK121.out 1).trans rfl
                          have hcz45_2 : wc.cell? ⟨gb121, 2, none⟩ = some (.int .i64 a0_2) := (blk_cell BK121.out 2).trans rfl
                          have hcz45_3 : wc.cell? ⟨gb121, 3, none⟩ = some (.int .i64 a0_3) := (blk_cell BK121.out 3).trans rfl
                          have hcz45_4 : wc.cell? ⟨gb121, 4, none⟩ = some (.int .i64 a0_4) := (blk_cell BK121.out 4).trans rfl
                          have hfz45_0 := blk_frozen BK121.out 0
                          have hfz45_1 := blk_frozen BK121.out 1
                          have hfz45_2 := blk_frozen BK121.out 2
                          have hfz45_3 := blk_frozen BK121.out 3
                          have hfz45_4 := blk_frozen BK121.out 4
                          go_wp2
                          go_ret
                          exact ⟨by first | rfl | (simp [errW_none, errW_some] <;> rfl) | (simp [*, errW_none, errW_some] <;> rfl), by repeat (first | (with_reducible first | exact HB.out | apply below_alloc | apply pw_below_drewN | apply below_drew1 | refine below_set ?_ GE121.out) | exact HB.out)⟩
                      · rw [if_neg c40] at H
                        have c40b0 : decide (0 ≤ a0_4) = false := decide_eq_false c40
                        clear c40
                        obtain rfl := Option.some.inj H
                        have hcz46_0 : wc.cell? ⟨gb121, 0, none⟩ = some (.int .i64 a0_0) := (blk_cell BK121.out 0).trans rfl
                        have hcz46_1 : wc.cell? ⟨gb121, 1, none⟩ = some (.int .i64 a0_1) := (blk_cell BK121.out 1).trans rfl
                        have hcz46_2 : wc.cell? ⟨gb121, 2, none⟩ = some (.int .i64 a0_2) := (blk_cell BK121.out 2).trans rfl
                        have hcz46_3 : wc.cell? ⟨gb121, 3, none⟩ = some (.int .i64 a0_3) := (blk_cell BK121.out 3).trans rfl
                        have hcz46_4 : wc.cell? ⟨gb121, 4, none⟩ = some (.int .i64 a0_4) := (blk_cell BK121.out 4).trans rfl
                        have hfz46_0 := blk_frozen BK121.out 0
                        have hfz46_1 := blk_frozen BK121.out 1
                        have hfz46_2 := blk_frozen BK121.out 2
                        have hfz46_3 := blk_frozen BK121.out 3
                        have hfz46_4 := blk_frozen BK121.out 4
                        go_wp2
                        go_ret
                        exact ⟨by first | rfl | (simp [errW_none, errW_some] <;> rfl) | (simp [*, errW_none, errW_some] <;> rfl), by repeat (first | (with_reducible first | exact HB.out | apply below_alloc | apply pw_below_drewN | apply below_drew1 | refine below_set ?_ GE121.out) | exact HB.out)⟩
                    · rw [if_neg c39] at H
                      have c39b0 : (a0_0 == 20) = false := beq_eq_false_iff_ne.mpr c39
                      have c39b1 : (a0_0 != 20) = true := bne_iff_ne.mpr c39
                      by_cases c47 : a0_4 ≥ 0
                      · rw [if_pos c47] at H
                        have c47b0 : decide (0 ≤ a0_4) = true := decide_eq_true c47
                        clear c47
                        by_cases c48 : a0_4 ≤ 4096
                        · rw [if_pos c48] at H
                          have c48b0 : decide (a0_4 ≤ 4096) = true := decide_eq_true c48
                          clear c48
                          by_cases c49 : x3_1 = 1
                          · rw [if_pos c49] at H
                            have c49b0 : (x3_1 == 1) = true := beq_iff_eq.mpr c49
                            have c49b1 : (x3_1 != 1) = false := bne_eq_false_iff_eq.mpr c49
                            clear c49
                            obtain rfl := Option.some.inj H
                            have hcz50_0 : wc.cell? ⟨gb121, 0, none⟩ = some (.int .i64 a0_0) := (blk_cell BK121.out 0).trans rfl
                            have hcz50_1 : wc.cell? ⟨gb121, 1, none⟩ = some (.int .i64 a0_1) := (blk_cell BK121.out 1).trans rfl
                            have hcz50_2 : wc.cell? ⟨gb121, 2, none⟩ = some (.int .i64 a0_2) := (blk_cell BK121.out 2).trans rfl
                            have hcz50_3 : wc.cell? ⟨gb121, 3, none⟩ = some (.int .i64 a0_3) := (blk_cell BK121.out 3).trans rfl
                            have hcz50_4 : wc.cell? ⟨gb121, 4, none⟩ = some (.int .i64 a0_4) := (blk_cell BK121.out 4).trans rfl
                            have hfz50_0 := blk_frozen BK121.out 0
                            have hfz50_1 := blk_frozen BK121.out 1
                            have hfz50_2 := blk_frozen BK121.out 2
                            have hfz50_3 := blk_frozen BK121.out 3
                            have hfz50_4 := blk_frozen BK121.out 4
                            go_wp2
                            go_ret
                            exact ⟨by first | rfl | (simp [errW_none, errW_some] <;> rfl) | (simp [*, errW_none, errW_some] <;> rfl), by repeat (first | (with_reducible first | exact HB.out | apply below_alloc | apply pw_below_drewN | apply below_drew1 | refine below_set ?_ GE121.out) | exact HB.out)⟩
                          · rw [if_neg c49] at H
                            have c49b0 : (x3_1 == 1) = false := beq_eq_false_iff_ne.mpr c49
                            have c49b1 : (x3_1 != 1) = true := bne_iff_ne.mpr c49
                            obtain rfl := Option.some.inj H
                            have hcz51_0 : wc.cell? ⟨gb121, 0, none⟩ = some (.int .i64 a0_0) := (blk_cell BK121.out 0).trans rfl
                            have hcz51_1 : wc.cell? ⟨gb121, 1, none⟩ = some (.int .i64 a0_1) := (blk_cell BK121.out 1).trans rfl
                            have hcz51_2 : wc.cell? ⟨gb121, 2, none⟩ = some (.int .i64 a0_2) := (blk_cell BK121.out 2).trans rfl
                            have hcz51_3 : wc.cell? ⟨gb121, 3, none⟩ = some (.int .i64 a0_3) := (blk_cell BK121.out 3).trans rfl
                            have hcz51_4 : wc.cell? ⟨gb121, 4, none⟩ = some (.int .i64 a0_4) := (blk_cell BK121.out 4).trans rfl
                            have hfz51_0 := blk_frozen BK121.out 0
                            have hfz51_1 := blk_frozen BK121.out 1
                            have hfz51_2 := blk_frozen BK121.out 2
                            have hfz51_3 := blk_frozen BK121.out 3
                            have hfz51_4 := blk_frozen BK121.out 4
                            go_wp2
                            go_ret
                            exact ⟨by first | rfl | (simp [errW_none, errW_some] <;> rfl) | (simp [*, errW_none, errW_some] <;> rfl), by repeat (first | (with_reducible first | exact HB.out | apply below_alloc | apply pw_below_drewN | apply below_drew1 | refine below_set ?_ GE121.out) | exact HB.out)⟩
                        · rw [if_neg c48] at H
                          have c48b0 : decide (a0_4 ≤ 4096) = false := decide_eq_false c48
                          clear c48
                          obtain rfl := Option.some.inj H
                          have hcz52_0 : wc.cell? ⟨gb121, 0, none⟩ = some (.int .i64 a0_0) := (blk_cell BK121.out 0).trans rfl
                          have hcz52_1 : wc.cell? ⟨gb121, 1, none⟩ = some (.int .i64 a0_1) := (blk_cell BK121.out 1).trans rfl
                          have hcz52_2 : wc.cell? ⟨gb121, 2, none⟩ = some (.int .i64 a0_2) := (blk_cell BK121.out 2).trans rfl
                          have hcz52_3 : wc.cell? ⟨gb121, 3, none⟩ = some (.int .i64 a0_3) := (blk_cell BK121.out 3).trans rfl
                          have hcz52_4 : wc.cell? ⟨gb121, 4, none⟩ = some (.int .i64 a0_4) := (blk_cell BK121.out 4).trans rfl
                          have hfz52_0 := blk_frozen BK121.out 0
                          have hfz52_1 := blk_frozen BK121.out 1
                          have hfz52_2 := blk_frozen BK121.out 2
                          have hfz52_3 := blk_frozen BK121.out 3
                          have hfz52_4 := blk_frozen BK121.out 4
                          go_wp2
                          go_ret
                          exact ⟨by first | rfl | (simp [errW_none, errW_some] <;> rfl) | (simp [*, errW_none, errW_some] <;> rfl), by repeat (first | (with_reducible first | exact HB.out | apply below_alloc | apply pw_below_drewN | apply below_drew1 | refine below_set ?_ GE121.out) | exact HB.out)⟩
                      · rw [if_neg c47] at H
                        have c47b0 : decide (0 ≤ a0_4) = false := decide_eq_false c47
                        clear c47
                        obtain rfl := Option.some.inj H
                        have hcz53_0 : wc.cell? ⟨gb121, 0, none⟩ = some (.int .i64 a0_0) := (blk_cell BK121.out 0).trans rfl
                        have hcz53_1 : wc.cell? ⟨gb121, 1, none⟩ = some (.int .i64 a0_1) := (blk_cell BK121.out 1).trans rfl
                        have hcz53_2 : wc.cell? ⟨gb121, 2, none⟩ = some (.int .i64 a0_2) := (blk_cell BK121.out 2).trans rfl
                        have hcz53_3 : wc.cell? ⟨gb121, 3, none⟩ = some (.int .i64 a0_3) := (blk_cell BK121.out 3).trans rfl
                        have hcz53_4 : wc.cell? ⟨gb121, 4, none⟩ = some (.int .i64 a0_4) := (blk_cell BK121.out 4).trans rfl
                        have hfz53_0 := blk_frozen BK121.out 0
                        have hfz53_1 := blk_frozen BK121.out 1
                        have hfz53_2 := blk_frozen BK121.out 2
                        have hfz53_3 := blk_frozen BK121.out 3
                        have hfz53_4 := blk_frozen BK121.out 4
                        go_wp2
                        go_ret
                        exact ⟨by first | rfl | (simp [errW_none, errW_some] <;> rfl) | (simp [*, errW_none, errW_some] <;> rfl), by repeat (first | (with_reducible first | exact HB.out | apply below_alloc | apply pw_below_drewN | apply below_drew1 | refine below_set ?_ GE121.out) | exact HB.out)⟩
                  · replace c38 := Bool.eq_false_iff.mpr c38
                    subst c38
                    have H1 : (if a0_0 = 20 then (if a0_4 ≥ 0 then (if a0_4 ≤ 2 then (if x3_1 = 1 then (some true) else (some (a0_4 == 0))) else (some false)) else (some false)) else (if a0_4 ≥ x6_30 then (if a0_4 ≤ 32767 then (if x3_1 = 1 then (some true) else (some (a0_4 == 0))) else (some false)) else (some false))) = some r := by rw [if_neg (show ¬ (false = true) by decide)] at H; exact H
                    clear H
                    have H := H1
                    clear H1
                    by_cases c54 : a0_0 = 20
                    · rw [if_pos c54] at H
                      have c54b0 : (a0_0 == 20) = true := beq_iff_eq.mpr c54
                      have c54b1 : (a0_0 != 20) = false := bne_eq_false_iff_eq.mpr c54
                      clear c54
                      by_cases c55 : a0_4 ≥ 0
                      · rw [if_pos c55] at H
                        have c55b0 : decide (0 ≤ a0_4) = true := decide_eq_true c55
                        clear c55
                        by_cases c56 : a0_4 ≤ 2
                        · rw [if_pos c56] at H
                          have c56b0 : decide (a0_4 ≤ 2) = true := decide_eq_true c56
                          clear c56
                          by_cases c57 : x3_1 = 1
                          · rw [if_pos c57] at H
                            have c57b0 : (x3_1 == 1) = true := beq_iff_eq.mpr c57
                            have c57b1 : (x3_1 != 1) = false := bne_eq_false_iff_eq.mpr c57
                            clear c57
                            obtain rfl := Option.some.inj H
                            have hcz58_0 : wc.cell? ⟨gb121, 0, none⟩ = some (.int .i64 a0_0) := (blk_cell BK121.out 0).trans rfl
                            have hcz58_1 : wc.cell? ⟨gb121, 1, none⟩ = some (.int .i64 a0_1) := (blk_cell BK121.out 1).trans rfl
                            have hcz58_2 : wc.cell? ⟨gb121, 2, none⟩ = some (.int .i64 a0_2) := (blk_cell BK121.out 2).trans rfl
                            have hcz58_3 : wc.cell? ⟨gb121, 3, none⟩ = some (.int .i64 a0_3) := (blk_cell BK121.out 3).trans rfl
                            have hcz58_4 : wc.cell? ⟨gb121, 4, none⟩ = some (.int .i64 a0_4) := (blk_cell BK121.out 4).trans rfl
                            have hfz58_0 := blk_frozen BK121.out 0
                            have hfz58_1 := blk_frozen BK121.out 1
                            have hfz58_2 := blk_frozen BK121.out 2
                            have hfz58_3 := blk_frozen BK121.out 3
                            have hfz58_4 := blk_frozen BK121.out 4
                            go_wp2
                            go_ret
                            exact ⟨by first | rfl | (simp [errW_none, errW_some] <;> rfl) | (simp [*, errW_none, errW_some] <;> rfl), by repeat (first | (with_reducible first | exact HB.out | apply below_alloc | apply pw_below_drewN | apply below_drew1 | refine below_set ?_ GE121.out) | exact HB.out)⟩
                          · rw [if_neg c57] at H
                            have c57b0 : (x3_1 == 1) = false := beq_eq_false_iff_ne.mpr c57
                            have c57b1 : (x3_1 != 1) = true := bne_iff_ne.mpr c57
                            obtain rfl := Option.some.inj H
                            have hcz59_0 : wc.cell? ⟨gb121, 0, none⟩ = some (.int .i64 a0_0) := (blk_cell BK121.out 0).trans rfl
                            have hcz59_1 : wc.cell? ⟨gb121, 1, none⟩ = some (.int .i64 a0_1) := (blk_cell BK121.out 1).trans rfl
                            have hcz59_2 : wc.cell? ⟨gb121, 2, none⟩ = some (.int .i64 a0_2) := (blk_cell BK121.out 2).trans rfl
                            have hcz59_3 : wc.cell? ⟨gb121, 3, none⟩ = some (.int .i64 a0_3) := (blk_cell BK121.out 3).trans rfl
                            have hcz59_4 : wc.cell? ⟨gb121, 4, none⟩ = some (.int .i64 a0_4) := (blk_cell BK121.out 4).trans rfl
                            have hfz59_0 := blk_frozen BK121.out 0
                            have hfz59_1 := blk_frozen BK121.out 1
                            have hfz59_2 := blk_frozen BK121.out 2
                            have hfz59_3 := blk_frozen BK121.out 3
                            have hfz59_4 := blk_frozen BK121.out 4
                            go_wp2
                            go_ret
                            exact ⟨by first | rfl | (simp [errW_none, errW_some] <;> rfl) | (simp [*, errW_none, errW_some] <;> rfl), by repeat (first | (with_reducible first | exact HB.out | apply below_alloc | apply pw_below_drewN | apply below_drew1 | refine below_set ?_ GE121.out) | exact HB.out)⟩
                        · rw [if_neg c56] at H
                          have c56b0 : decide (a0_4 ≤ 2) = false := decide_eq_false c56
                          clear c56
                          obtain rfl := Option.some.inj H
                          have hcz60_0 : wc.cell? ⟨gb121, 0, none⟩ = some (.int .i64 a0_0) := (blk_cell BK121.out 0).trans rfl
                          have hcz60_1 : wc.cell? ⟨gb121, 1, none⟩ = some (.int .i64 a0_1) := (blk_cell BK121.out 1).trans rfl
                          have hcz60_2 : wc.cell? ⟨gb121, 2, none⟩ = some (.int .i64 a0_2) := (blk_cell BK121.out 2).trans rfl
                          have hcz60_3 : wc.cell? ⟨gb121, 3, none⟩ = some (.int .i64 a0_3) := (blk_cell BK121.out 3).trans rfl
                          have hcz60_4 : wc.cell? ⟨gb121, 4, none⟩ = some (.int .i64 a0_4) := (blk_cell BK121.out 4).trans rfl
                          have hfz60_0 := blk_frozen BK121.out 0
                          have hfz60_1 := blk_frozen BK121.out 1
                          have hfz60_2 := blk_frozen BK121.out 2
                          have hfz60_3 := blk_frozen BK121.out 3
                          have hfz60_4 := blk_frozen BK121.out 4
                          go_wp2
                          go_ret
                          exact ⟨by first | rfl | (simp [errW_none, errW_some] <;> rfl) | (simp [*, errW_none, errW_some] <;> rfl), by repeat (first | (with_reducible first | exact HB.out | apply below_alloc | apply pw_below_drewN | apply below_drew1 | refine below_set ?_ GE121.out) | exact HB.out)⟩
                      · rw [if_neg c55] at H
                        have c55b0 : decide (0 ≤ a0_4) = false := decide_eq_false c55
                        clear c55
                        obtain rfl := Option.some.inj H
                        have hcz61_0 : wc.cell? ⟨gb121, 0, none⟩ = some (.int .i64 a0_0) := (blk_cell BK121.out 0).trans rfl
                        have hcz61_1 : wc.cell? ⟨gb121, 1, none⟩ = some (.int .i64 a0_1) := (blk_cell BK121.out 1).trans rfl
                        have hcz61_2 : wc.cell? ⟨gb121, 2, none⟩ = some (.int .i64 a0_2) := (blk_cell BK121.out 2).trans rfl
                        have hcz61_3 : wc.cell? ⟨gb121, 3, none⟩ = some (.int .i64 a0_3) := (blk_cell BK121.out 3).trans rfl
                        have hcz61_4 : wc.cell? ⟨gb121, 4, none⟩ = some (.int .i64 a0_4) := (blk_cell BK121.out 4).trans rfl
                        have hfz61_0 := blk_frozen BK121.out 0
                        have hfz61_1 := blk_frozen BK121.out 1
                        have hfz61_2 := blk_frozen BK121.out 2
                        have hfz61_3 := blk_frozen BK121.out 3
                        have hfz61_4 := blk_frozen BK121.out 4
                        go_wp2
                        go_ret
                        exact ⟨by first | rfl | (simp [errW_none, errW_some] <;> rfl) | (simp [*, errW_none, errW_some] <;> rfl), by repeat (first | (with_reducible first | exact HB.out | apply below_alloc | apply pw_below_drewN | apply below_drew1 | refine below_set ?_ GE121.out) | exact HB.out)⟩
                    · rw [if_neg c54] at H
                      have c54b0 : (a0_0 == 20) = false := beq_eq_false_iff_ne.mpr c54
                      have c54b1 : (a0_0 != 20) = true := bne_iff_ne.mpr c54
                      by_cases c62 : a0_4 ≥ x6_30
                      · rw [if_pos c62] at H
                        have c62b0 : decide (x6_30 ≤ a0_4) = true := decide_eq_true c62
                        clear c62
                        by_cases c63 : a0_4 ≤ 32767
                        · rw [if_pos c63] at H
                          have c63b0 : decide (a0_4 ≤ 32767) = true := decide_eq_true c63
                          clear c63
                          by_cases c64 : x3_1 = 1
                          · rw [if_pos c64] at H
                            have c64b0 : (x3_1 == 1) = true := beq_iff_eq.mpr c64
                            have c64b1 : (x3_1 != 1) = false := bne_eq_false_iff_eq.mpr c64
                            clear c64
                            obtain rfl := Option.some.inj H
                            have hcz65_0 : wc.cell? ⟨gb121, 0, none⟩ = some (.int .i64 a0_0) := (blk_cell BK121.out 0).trans rfl
                            have hcz65_1 : wc.cell? ⟨gb121, 1, none⟩ = some (.int .i64 a0_1) := (blk_cell BK121.out 1).trans rfl
                            have hcz65_2 : wc.cell? ⟨gb121, 2, none⟩ = some (.int .i64 a0_2) := (blk_cell BK121.out 2).trans rfl
                            have hcz65_3 : wc.cell? ⟨gb121, 3, none⟩ = some (.int .i64 a0_3) := (blk_cell BK121.out 3).trans rfl
                            have hcz65_4 : wc.cell? ⟨gb121, 4, none⟩ = some (.int .i64 a0_4) := (blk_cell BK121.out 4).trans rfl
                            have hfz65_0 := blk_frozen BK121.out 0
                            have hfz65_1 := blk_frozen BK121.out 1
                            have hfz65_2 := blk_frozen BK121.out 2
                            have hfz65_3 := blk_frozen BK121.out 3
                            have hfz65_4 := blk_frozen BK121.out 4
                            go_wp2
                            go_ret
                            exact ⟨by first | rfl | (simp [errW_none, errW_some] <;> rfl) | (simp [*, errW_none, errW_some] <;> rfl), by repeat (first | (with_reducible first | exact HB.out | apply below_alloc | apply pw_below_drewN | apply below_drew1 | refine below_set ?_ GE121.out) | exact HB.out)⟩
                          · rw [if_neg c64] at H
                            have c64b0 : (x3_1 == 1) = false := beq_eq_false_iff_ne.mpr c64
                            have c64b1 : (x3_1 != 1) = true := bne_iff_ne.mpr c64
                            obtain rfl := Option.some.inj H
                            have hcz66_0 : wc.cell? ⟨gb121, 0, none⟩ = some (.int .i64 a0_0) := (blk_cell BK121.out 0).trans rfl
                            have hcz66_1 : wc.cell? ⟨gb121, 1, none⟩ = some (.int .i64 a0_1) := (blk_cell BK121.out 1).trans rfl
                            have hcz66_2 : wc.cell? ⟨gb121, 2, none⟩ = some (.int .i64 a0_2) := (blk_cell BK121.out 2).trans rfl
                            have hcz66_3 : wc.cell? ⟨gb121, 3, none⟩ = some (.int .i64 a0_3) := (blk_cell BK121.out 3).trans rfl
                            have hcz66_4 : wc.cell? ⟨gb121, 4, none⟩ = some (.int .i64 a0_4) := (blk_cell BK121.out 4).trans rfl
                            have hfz66_0 := blk_frozen BK121.out 0
                            have hfz66_1 := blk_frozen BK121.out 1
                            have hfz66_2 := blk_frozen BK121.out 2
                            have hfz66_3 := blk_frozen BK121.out 3
                            have hfz66_4 := blk_frozen BK121.out 4
                            go_wp2
                            go_ret
                            exact ⟨by first | rfl | (simp [errW_none, errW_some] <;> rfl) | (simp [*, errW_none, errW_some] <;> rfl), by repeat (first | (with_reducible first | exact HB.out | apply below_alloc | apply pw_below_drewN | apply below_drew1 | refine below_set ?_ GE121.out) | exact HB.out)⟩
                        · rw [if_neg c63] at H
                          have c63b0 : decide (a0_4 ≤ 32767) = false := decide_eq_false c63
                          clear c63
                          obtain rfl := Option.some.inj H
                          have hcz67_0 : wc.cell? ⟨gb121, 0, none⟩ = some (.int .i64 a0_0) := (blk_cell BK121.out 0).trans rfl
                          have hcz67_1 : wc.cell? ⟨gb121, 1, none⟩ = some (.int .i64 a0_1) := (blk_cell BK121.out 1).trans rfl
                          have hcz67_2 : wc.cell? ⟨gb121, 2, none⟩ = some (.int .i64 a0_2) := (blk_cell BK121.out 2).trans rfl
                          have hcz67_3 : wc.cell? ⟨gb121, 3, none⟩ = some (.int .i64 a0_3) := (blk_cell BK121.out 3).trans rfl
                          have hcz67_4 : wc.cell? ⟨gb121, 4, none⟩ = some (.int .i64 a0_4) := (blk_cell BK121.out 4).trans rfl
                          have hfz67_0 := blk_frozen BK121.out 0
                          have hfz67_1 := blk_frozen BK121.out 1
                          have hfz67_2 := blk_frozen BK121.out 2
                          have hfz67_3 := blk_frozen BK121.out 3
                          have hfz67_4 := blk_frozen BK121.out 4
                          go_wp2
                          go_ret
                          exact ⟨by first | rfl | (simp [errW_none, errW_some] <;> rfl) | (simp [*, errW_none, errW_some] <;> rfl), by repeat (first | (with_reducible first | exact HB.out | apply below_alloc | apply pw_below_drewN | apply below_drew1 | refine below_set ?_ GE121.out) | exact HB.out)⟩
                      · rw [if_neg c62] at H
                        have c62b0 : decide (x6_30 ≤ a0_4) = false := decide_eq_false c62
                        clear c62
                        obtain rfl := Option.some.inj H
                        have hcz68_0 : wc.cell? ⟨gb121, 0, none⟩ = some (.int .i64 a0_0) := (blk_cell BK121.out 0).trans rfl
                        have hcz68_1 : wc.cell? ⟨gb121, 1, none⟩ = some (.int .i64 a0_1) := (blk_cell BK121.out 1).trans rfl
                        have hcz68_2 : wc.cell? ⟨gb121, 2, none⟩ = some (.int .i64 a0_2) := (blk_cell BK121.out 2).trans rfl
                        have hcz68_3 : wc.cell? ⟨gb121, 3, none⟩ = some (.int .i64 a0_3) := (blk_cell BK121.out 3).trans rfl
                        have hcz68_4 : wc.cell? ⟨gb121, 4, none⟩ = some (.int .i64 a0_4) := (blk_cell BK121.out 4).trans rfl
                        have hfz68_0 := blk_frozen BK121.out 0
                        have hfz68_1 := blk_frozen BK121.out 1
                        have hfz68_2 := blk_frozen BK121.out 2
                        have hfz68_3 := blk_frozen BK121.out 3
                        have hfz68_4 := blk_frozen BK121.out 4
                        go_wp2
                        go_ret
                        exact ⟨by first | rfl | (simp [errW_none, errW_some] <;> rfl) | (simp [*, errW_none, errW_some] <;> rfl), by repeat (first | (with_reducible first | exact HB.out | apply below_alloc | apply pw_below_drewN | apply below_drew1 | refine below_set ?_ GE121.out) | exact HB.out)⟩

end Go.Proofs.Ytnodlolicndopaa.PIsaEncodes

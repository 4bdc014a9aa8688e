/- Texts of the proof, in their order: Rr, Dt1, cSn1, cSn2, cSn3, cSn4, cSn5, cSn6, cSp1, cSn7, cSn8, Cm1, Cm2, Cm3, Cm4, Cm5, Cm6, Nb1, Br1. -/
import Derived.Test.YtkolmklfgbimoaaGreatDoorM2
import Derived.Sort.Grow
import Derived.Deep.Draws
import Derived.Lib.LaidTab
set_option linter.unusedVariables false
set_option linter.unusedSimpArgs false
namespace Go.Proofs.YtkolmklfgbimoaaGreatDoor
open Go Go.Sx Go.Sx.Chunk
structure Hold (Q : Prop) : Prop where
 out : Q
theorem wa_skipQ {P : Program} {l : List Oper} {w0 : World} {M : Nat → Prop} {H Hk : List Chunk} {n : Cx} {Q : Exit → Act → World → Prop} {S : World → Prop} {ls ord : List Nat} {E : Env} {fuel i d : Nat} {listed : Array Bool} {oi : Oper} (hi : nthO l i = some oi) (hg : guardNo l E oi.guard = true) (hd : oi.dst = some d) (hn : Nat.blt d n.m = true) (_hq : quietOp oi.op = true) (hc : chk l.toArray listed i = true)
  (h : WS w0 M H Hk (XO P l n Q S ls ((d, undef) :: E) ord fuel (listed.setIfInBounds i true))) : WS w0 M H Hk (XO P l n Q S ls E (i :: ord) (fuel + 1) listed) := wa_skip hi hg hd hn hc h
theorem xLd {Q : Prop} (h : Q := by (first | (first | (apply ld_b T; exact rfl; (repeat (first | exact find_here | apply find_there)); (first | exact rfl | assumption); exact rfl; exact rfl) | (apply ld_bs T; exact rfl; (repeat (first | exact find_here | apply find_there)); exact rfl; exact rfl; exact rfl) | (apply ld_r T; exact rfl; (repeat (first | exact find_here | apply find_there)); exact rfl; exact rfl; (first | assumption | exact rfl)) | (apply ld_rs T; exact rfl; (repeat (first | exact find_here | apply find_there)); exact rfl; exact rfl; assumption; (first | omega | (dsimp only; omega))) | (apply ld_gA T; exact rfl; exact rfl; (focus ((repeat (first | exact find_here | apply find_there)); done)); exact rfl; exact rfl; (first | assumption | exact rfl)) | (apply ld_gA T; exact rfl; exact add_add _ _ _; (focus ((repeat (first | exact find_here | apply find_there)); done)); exact rfl; exact rfl; (first | assumption | exact rfl)) | (apply ld_gA T; exact rfl; exact (addr_add _ _ _).symm; (focus ((repeat (first | exact find_here | apply find_there)); done)); exact rfl; exact rfl; (first | assumption | exact rfl)) | (apply ld_gA T; exact rfl; exact (addr_zero _).symm; (focus ((repeat (first | exact find_here | apply find_there)); done)); exact rfl; exact rfl; (first | assumption | exact rfl)) | (apply ld_gsA T; exact rfl; exact rfl; (focus ((repeat (first | exact find_here | apply find_there)); done)); exact rfl; exact rfl; (first | assumption | exact rfl); (first | omega | (dsimp only; omega) | exact Nat.le_of_ble_eq_true rfl)) | (apply ld_gsA T; exact rfl; exact add_add _ _ _; (focus ((repeat (first | exact find_here | apply find_there)); done)); exact rfl; exact rfl; (first | assumption | exact rfl); (first | omega | (dsimp only; omega) | exact Nat.le_of_ble_eq_true rfl)) | (apply ld_gsA T; exact rfl; exact (addr_add _ _ _).symm; (focus ((repeat (first | exact find_here | apply find_there)); done)); exact rfl; exact rfl; (first | assumption | exact rfl); (first | omega | (dsimp only; omega) | exact Nat.le_of_ble_eq_true rfl)) | (apply ld_gsA T; exact rfl; exact (addr_zero _).symm; (focus ((repeat (first | exact find_here | apply find_there)); done)); exact rfl; exact rfl; (first | assumption | exact rfl); (first | omega | (dsimp only; omega) | exact Nat.le_of_ble_eq_true rfl)) | (apply ld_f T; exact rfl; (repeat (first | exact find_here | apply find_there)); exact rfl; exact rfl; assumption) | (apply ld_map T keyS; exact rfl; exact rfl; (repeat (first | exact find_here | apply find_there)); exact rfl; exact rfl; exact rfl; exact rfl; exact rfl; exact rfl; kernel_rfl) | (apply ld_map T (keyI .i64); exact rfl; exact rfl; (repeat (first | exact find_here | apply find_there)); exact rfl; exact rfl; exact rfl; exact rfl; exact rfl; exact rfl; kernel_rfl) | (apply ld_strf T; exact rfl; (repeat (first | exact find_here | apply find_there)); exact rfl; exact rfl; exact rfl; exact rfl; exact rfl; exact rfl; (first | assumption | exact rfl); (first | exact rfl | assumption | omega)) | (apply ld_strr T; exact rfl; (repeat (first | exact find_here | apply find_there)); exact rfl; exact rfl; exact rfl; exact rfl; exact rfl; exact rfl; (first | assumption | exact rfl); (first | exact rfl | assumption | omega)) | (apply ld_strb T; exact rfl; (repeat (first | exact find_here | apply find_there)); exact rfl; exact rfl; exact rfl; exact rfl; exact rfl; exact rfl; (first | assumption | exact rfl); (first | exact rfl | assumption | omega))) | (apply ld_oG T; exact rfl; exact rfl; (focus ((repeat (first | exact find_here | apply find_there)); done)); exact rfl; exact rfl; (first | assumption | exact rfl)) | (apply ld_oG T; exact rfl; exact add_add _ _ _; (focus ((repeat (first | exact find_here | apply find_there)); done)); exact rfl; exact rfl; (first | assumption | exact rfl)) | (apply ld_oG T; exact rfl; exact (addr_add _ _ _).symm; (focus ((repeat (first | exact find_here | apply find_there)); done)); exact rfl; exact rfl; (first | assumption | exact rfl)) | (apply ld_oG T; exact rfl; exact (addr_zero _).symm; (focus ((repeat (first | exact find_here | apply find_there)); done)); exact rfl; exact rfl; (first | assumption | exact rfl)) | (apply ld_oGs T; exact rfl; exact rfl; (focus ((repeat (first | exact find_here | apply find_there)); done)); exact rfl; exact rfl; (first | assumption | exact rfl); (first | omega | (dsimp only; omega) | exact Nat.le_of_ble_eq_true rfl)) | (apply ld_oGs T; exact rfl; exact add_add _ _ _; (focus ((repeat (first | exact find_here | apply find_there)); done)); exact rfl; exact rfl; (first | assumption | exact rfl); (first | omega | (dsimp only; omega) | exact Nat.le_of_ble_eq_true rfl)) | (apply ld_oGs T; exact rfl; exact (addr_add _ _ _).symm; (focus ((repeat (first | exact find_here | apply find_there)); done)); exact rfl; exact rfl; (first | assumption | exact rfl); (first | omega | (dsimp only; omega) | exact Nat.le_of_ble_eq_true rfl)) | (apply ld_oGs T; exact rfl; exact (addr_zero _).symm; (focus ((repeat (first | exact find_here | apply find_there)); done)); exact rfl; exact rfl; (first | assumption | exact rfl); (first | omega | (dsimp only; omega) | exact Nat.le_of_ble_eq_true rfl)) | (apply ld_oR T; exact rfl; exact rfl; (focus ((repeat (first | exact find_here | apply find_there)); done)); exact rfl; exact rfl; (first | assumption | exact rfl)) | (apply ld_oR T; exact rfl; exact add_add _ _ _; (focus ((repeat (first | exact find_here | apply find_there)); done)); exact rfl; exact rfl; (first | assumption | exact rfl)) | (apply ld_oR T; exact rfl; exact (addr_add _ _ _).symm; (focus ((repeat (first | exact find_here | apply find_there)); done)); exact rfl; exact rfl; (first | assumption | exact rfl)) | (apply ld_oR T; exact rfl; exact (addr_zero _).symm; (focus ((repeat (first | exact find_here | apply find_there)); done)); exact rfl; exact rfl; (first | assumption | exact rfl)) | (apply ld_oRs T; exact rfl; exact rfl; (focus ((repeat (first | exact find_here | apply find_there)); done)); exact rfl; exact rfl; (first | assumption | exact rfl); (first | omega | (dsimp only; omega) | exact Nat.le_of_ble_eq_true rfl)) | (apply ld_oRs T; exact rfl; exact add_add _ _ _; (focus ((repeat (first | exact find_here | apply find_there)); done)); exact rfl; exact rfl; (first | assumption | exact rfl); (first | omega | (dsimp only; omega) | exact Nat.le_of_ble_eq_true rfl)) | (apply ld_oRs T; exact rfl; exact (addr_add _ _ _).symm; (focus ((repeat (first | exact find_here | apply find_there)); done)); exact rfl; exact rfl; (first | assumption | exact rfl); (first | omega | (dsimp only; omega) | exact Nat.le_of_ble_eq_true rfl)) | (apply ld_oRs T; exact rfl; exact (addr_zero _).symm; (focus ((repeat (first | exact find_here | apply find_there)); done)); exact rfl; exact rfl; (first | assumption | exact rfl); (first | omega | (dsimp only; omega) | exact Nat.le_of_ble_eq_true rfl)))) : Q := h
theorem xLm {Q : Prop} (h : Q := by (first | (apply ld_map T keyS; exact rfl; exact rfl; (repeat (first | exact find_here | apply find_there)); exact rfl; exact rfl; exact rfl; exact rfl; exact rfl; exact rfl; kernel_rfl) | (apply ld_map T (keyI .i64); exact rfl; exact rfl; (repeat (first | exact find_here | apply find_there)); exact rfl; exact rfl; exact rfl; exact rfl; exact rfl; exact rfl; kernel_rfl))) : Q := h
theorem xGv {Q : Prop} (h : Q := by (first | (apply g_conv T; exact rfl; exact rfl; exact rfl; exact rfl; (first | exact inK_i64 (by omega) (by omega) | exact inK_i32 (by omega) (by omega) | exact inK_u8 (by omega) (by omega) | exact inK_u64 (by omega) (by omega))) | (apply g_pure T; exact rfl) | (apply g_arith; exact rfl; exact rfl; exact rfl; (first | exact inK_i64 (by omega) (by omega) | exact inK_i32 (by omega) (by omega) | exact inK_u8 (by omega) (by omega) | exact inK_u64 (by omega) (by omega))) | (apply g_indexAddr T; exact rfl; exact rfl; exact rfl; exact rfl; exact rfl; (first | omega | decide | (simp only [Go.Sx.size_mk, List.length_cons, List.length_nil, ByteArray.size_append]; omega) | (simp <;> omega)); (first | omega | decide | (simp only [Go.Sx.size_mk, List.length_cons, List.length_nil, ByteArray.size_append]; omega) | (simp <;> omega))) | (apply g_slice0 T; exact rfl; exact rfl; exact rfl; exact rfl; exact rfl; (first | omega | decide | (simp only [Go.Sx.size_mk, List.length_cons, List.length_nil, ByteArray.size_append]; omega) | (simp <;> omega)); (first | omega | decide | (simp only [Go.Sx.size_mk, List.length_cons, List.length_nil, ByteArray.size_append]; omega) | (simp <;> omega))) | (apply g_strAB T; exact rfl; exact rfl; exact rfl; exact rfl; exact rfl; (first | omega | decide | (simp only [Go.Sx.size_mk, List.length_cons, List.length_nil, ByteArray.size_append]; omega) | (simp <;> omega)); (first | omega | decide | (simp only [Go.Sx.size_mk, List.length_cons, List.length_nil, ByteArray.size_append]; omega) | (simp <;> omega)); (first | omega | decide | (simp only [Go.Sx.size_mk, List.length_cons, List.length_nil, ByteArray.size_append]; omega) | (simp <;> omega))) | (apply g_strA T; exact rfl; exact rfl; exact rfl; exact rfl; (first | omega | decide | (simp only [Go.Sx.size_mk, List.length_cons, List.length_nil, ByteArray.size_append]; omega) | (simp <;> omega)); (first | omega | decide | (simp only [Go.Sx.size_mk, List.length_cons, List.length_nil, ByteArray.size_append]; omega) | (simp <;> omega))) | (apply g_strB T; exact rfl; exact rfl; exact rfl; exact rfl; (first | omega | decide | (simp only [Go.Sx.size_mk, List.length_cons, List.length_nil, ByteArray.size_append]; omega) | (simp <;> omega)); (first | omega | decide | (simp only [Go.Sx.size_mk, List.length_cons, List.length_nil, ByteArray.size_append]; omega) | (simp <;> omega))) | (apply g_sliceS T; exact rfl; exact rfl; exact rfl; exact rfl; exact rfl; (first | omega | decide | (simp only [Go.Sx.size_mk, List.length_cons, List.length_nil, ByteArray.size_append]; omega) | (simp <;> omega)); (first | omega | decide | (simp only [Go.Sx.size_mk, List.length_cons, List.length_nil, ByteArray.size_append]; omega) | (simp <;> omega)); (first | omega | decide | (simp only [Go.Sx.size_mk, List.length_cons, List.length_nil, ByteArray.size_append]; omega) | (simp <;> omega))) | (apply g_slice T; exact rfl; exact rfl; exact rfl; exact rfl; exact rfl; exact rfl; (first | omega | decide | (simp only [Go.Sx.size_mk, List.length_cons, List.length_nil, ByteArray.size_append]; omega) | (simp <;> omega)); (first | omega | decide | (simp only [Go.Sx.size_mk, List.length_cons, List.length_nil, ByteArray.size_append]; omega) | (simp <;> omega)); (first | omega | decide | (simp only [Go.Sx.size_mk, List.length_cons, List.length_nil, ByteArray.size_append]; omega) | (simp <;> omega))) | (apply g_index T; exact rfl; exact rfl; exact rfl; exact rfl; omega; assumption) | (apply g_indexAddrA T; exact rfl; exact rfl; exact rfl; exact rfl; exact rfl; omega; omega) | (apply g_indexAddrG T; exact rfl; exact rfl; exact rfl; exact rfl; exact rfl; omega; omega) | (apply g_fieldAddrG T; exact rfl; exact rfl; exact rfl; exact rfl; exact rfl; exact rfl) | (apply g_eq T; exact rfl; exact rfl; exact rfl; exact rfl) | (apply g_neq T; exact rfl; exact rfl; exact rfl; exact rfl) | (apply g_neqP T; exact rfl; exact rfl; exact rfl; exact rfl; exact rfl) | (apply g_eqN T; exact rfl; exact rfl; exact rfl) | (apply g_neqN T; exact rfl; exact rfl; exact rfl) | (apply g_eqS T; exact rfl; exact rfl; exact rfl; kernel_rfl; kernel_rfl; kernel_rfl) | (apply g_neqS T; exact rfl; exact rfl; exact rfl; kernel_rfl; kernel_rfl; kernel_rfl) | (apply g_max; exact rfl; exact rfl) | (apply g_min; exact rfl; exact rfl) | (apply g_divN; exact rfl; exact rfl; exact rfl; exact rfl; omega; (first | exact inK_i64 (by omega) (by omega) | exact inK_i32 (by omega) (by omega) | exact inK_u8 (by omega) (by omega) | exact inK_u64 (by omega) (by omega))) | (apply g_modN; exact rfl; exact rfl; exact rfl; exact rfl; omega) | (apply g_div; exact rfl; exact rfl; exact rfl; (first | assumption | decide)) | (apply g_mod; exact rfl; exact rfl; exact rfl; (first | assumption | decide)) | (apply g_build T; exact rfl; exact rfl; exact rfl; exact rfl; exact rfl) | (apply g_shl; exact rfl; exact rfl; exact rfl; omega) | (apply g_shr; exact rfl; exact rfl; exact rfl; omega) | (apply g_concat; exact rfl; exact rfl; (first | omega | (simp only [Go.Sx.size_mk, List.length_cons, List.length_nil, ByteArray.size_append]; omega) | (simp; omega))) | (apply g_neg; exact rfl; (first | exact inK_i64 (by omega) (by omega) | exact inK_i32 (by omega) (by omega) | exact inK_u8 (by omega) (by omega) | exact inK_u64 (by omega) (by omega))) | (apply g_wrap; exact rfl; exact rfl; exact rfl) | (apply g_neg_wrap; exact rfl) | (apply g_strnil T; exact rfl; exact rfl; exact rfl; exact rfl; exact rfl; exact rfl; exact rfl) | (apply g_convW T; exact rfl; exact rfl; exact rfl; exact rfl) | (apply g_bits; exact rfl; exact rfl; exact rfl) | (apply g_mapnil T keyS; exact rfl; exact rfl; exact rfl; exact rfl; exact rfl; exact rfl; exact rfl; exact rfl; kernel_rfl) | (apply g_mapnil T (keyI .i64); exact rfl; exact rfl; exact rfl; exact rfl; exact rfl; exact rfl; exact rfl; exact rfl; kernel_rfl))) : Q := h
theorem xGn {Q : Prop} (h : Q := by (first | (apply g_conv T; exact rfl; exact rfl; exact rfl; exact rfl; (first | exact inK_i64 (by omega) (by omega) | exact inK_i32 (by omega) (by omega) | exact inK_u8 (by omega) (by omega) | exact inK_u64 (by omega) (by omega))) | (apply g_pure T; exact rfl) | (apply g_arith; exact rfl; exact rfl; exact rfl; (first | exact inK_i64 (by omega) (by omega) | exact inK_i32 (by omega) (by omega) | exact inK_u8 (by omega) (by omega) | exact inK_u64 (by omega) (by omega))) | (apply g_indexAddr T; exact rfl; exact rfl; exact rfl; exact rfl; exact rfl; (first | omega | decide | (simp only [Go.Sx.size_mk, List.length_cons, List.length_nil, ByteArray.size_append]; omega) | (simp <;> omega)); (first | omega | decide | (simp only [Go.Sx.size_mk, List.length_cons, List.length_nil, ByteArray.size_append]; omega) | (simp <;> omega))) | (apply g_slice0 T; exact rfl; exact rfl; exact rfl; exact rfl; exact rfl; (first | omega | decide | (simp only [Go.Sx.size_mk, List.length_cons, List.length_nil, ByteArray.size_append]; omega) | (simp <;> omega)); (first | omega | decide | (simp only [Go.Sx.size_mk, List.length_cons, List.length_nil, ByteArray.size_append]; omega) | (simp <;> omega))) | (apply g_strAB T; exact rfl; exact rfl; exact rfl; exact rfl; exact rfl; (first | omega | decide | (simp only [Go.Sx.size_mk, List.length_cons, List.length_nil, ByteArray.size_append]; omega) | (simp <;> omega)); (first | omega | decide | (simp only [Go.Sx.size_mk, List.length_cons, List.length_nil, ByteArray.size_append]; omega) | (simp <;> omega)); (first | omega | decide | (simp only [Go.Sx.size_mk, List.length_cons, List.length_nil, ByteArray.size_append]; omega) | (simp <;> omega))) | (apply g_strA T; exact rfl; exact rfl; exact rfl; exact rfl; (first | omega | decide | (simp only [Go.Sx.size_mk, List.length_cons, List.length_nil, ByteArray.size_append]; omega) | (simp <;> omega)); (first | omega | decide | (simp only [Go.Sx.size_mk, List.length_cons, List.length_nil, ByteArray.size_append]; omega) | (simp <;> omega))) | (apply g_strB T; exact rfl; exact rfl; exact rfl; exact rfl; (first | omega | decide | (simp only [Go.Sx.size_mk, List.length_cons, List.length_nil, ByteArray.size_append]; omega) | (simp <;> omega)); (first | omega | decide | (simp only [Go.Sx.size_mk, List.length_cons, List.length_nil, ByteArray.size_append]; omega) | (simp <;> omega))) | (apply g_sliceS T; exact rfl; exact rfl; exact rfl; exact rfl; exact rfl; (first | omega | decide | (simp only [Go.Sx.size_mk, List.length_cons, List.length_nil, ByteArray.size_append]; omega) | (simp <;> omega)); (first | omega | decide | (simp only [Go.Sx.size_mk, List.length_cons, List.length_nil, ByteArray.size_append]; omega) | (simp <;> omega)); (first | omega | decide | (simp only [Go.Sx.size_mk, List.length_cons, List.length_nil, ByteArray.size_append]; omega) | (simp <;> omega))) | (apply g_slice T; exact rfl; exact rfl; exact rfl; exact rfl; exact rfl; exact rfl; (first | omega | decide | (simp only [Go.Sx.size_mk, List.length_cons, List.length_nil, ByteArray.size_append]; omega) | (simp <;> omega)); (first | omega | decide | (simp only [Go.Sx.size_mk, List.length_cons, List.length_nil, ByteArray.size_append]; omega) | (simp <;> omega)); (first | omega | decide | (simp only [Go.Sx.size_mk, List.length_cons, List.length_nil, ByteArray.size_append]; omega) | (simp <;> omega))) | (apply g_index T; exact rfl; exact rfl; exact rfl; exact rfl; omega; assumption) | (apply g_indexAddrA T; exact rfl; exact rfl; exact rfl; exact rfl; exact rfl; omega; omega) | (apply g_indexAddrG T; exact rfl; exact rfl; exact rfl; exact rfl; exact rfl; omega; omega) | (apply g_fieldAddrG T; exact rfl; exact rfl; exact rfl; exact rfl; exact rfl; exact rfl) | (apply g_eq T; exact rfl; exact rfl; exact rfl; exact rfl) | (apply g_neq T; exact rfl; exact rfl; exact rfl; exact rfl) | (apply g_neqP T; exact rfl; exact rfl; exact rfl; exact rfl; exact rfl) | (apply g_eqN T; exact rfl; exact rfl; exact rfl) | (apply g_neqN T; exact rfl; exact rfl; exact rfl) | (apply g_eqS T; exact rfl; exact rfl; exact rfl; kernel_rfl; kernel_rfl; kernel_rfl) | (apply g_neqS T; exact rfl; exact rfl; exact rfl; kernel_rfl; kernel_rfl; kernel_rfl) | (apply g_divN; exact rfl; exact rfl; exact rfl; exact rfl; omega; (first | exact inK_i64 (by omega) (by omega) | exact inK_i32 (by omega) (by omega) | exact inK_u8 (by omega) (by omega) | exact inK_u64 (by omega) (by omega))) | (apply g_modN; exact rfl; exact rfl; exact rfl; exact rfl; omega) | (apply g_div; exact rfl; exact rfl; exact rfl; (first | assumption | decide)) | (apply g_mod; exact rfl; exact rfl; exact rfl; (first | assumption | decide)) | (apply g_build T; exact rfl; exact rfl; exact rfl; exact rfl; exact rfl) | (apply g_shl; exact rfl; exact rfl; exact rfl; omega) | (apply g_shr; exact rfl; exact rfl; exact rfl; omega) | (apply g_concat; exact rfl; exact rfl; (first | omega | (simp only [Go.Sx.size_mk, List.length_cons, List.length_nil, ByteArray.size_append]; omega) | (simp; omega))) | (apply g_neg; exact rfl; (first | exact inK_i64 (by omega) (by omega) | exact inK_i32 (by omega) (by omega) | exact inK_u8 (by omega) (by omega) | exact inK_u64 (by omega) (by omega))) | (apply g_wrap; exact rfl; exact rfl; exact rfl) | (apply g_neg_wrap; exact rfl) | (apply g_strnil T; exact rfl; exact rfl; exact rfl; exact rfl; exact rfl; exact rfl; exact rfl) | (apply g_convW T; exact rfl; exact rfl; exact rfl; exact rfl) | (apply g_bits; exact rfl; exact rfl; exact rfl) | (apply g_mapnil T keyS; exact rfl; exact rfl; exact rfl; exact rfl; exact rfl; exact rfl; exact rfl; exact rfl; kernel_rfl) | (apply g_mapnil T (keyI .i64); exact rfl; exact rfl; exact rfl; exact rfl; exact rfl; exact rfl; exact rfl; exact rfl; kernel_rfl))) : Q := h
theorem xSt {Q : Prop} (h : Q := by (first | (apply eff_store T; exact rfl; (repeat (first | exact pick_here | apply pick_there)); exact rfl; exact rfl; exact rfl; (first | exact rfl | exact setsO_one (by first | assumption | (simp; omega))); exact rfl; exact rfl; (first | exact List.cons_ne_nil _ _ | exact (by simp))) | (apply eff_storef T; exact rfl; (repeat (first | exact pick_here | apply pick_there)); exact rfl; exact rfl; exact rfl; exact rfl; exact rfl; (first | omega | assumption)) | (apply eff_store_r T; exact rfl; (repeat (first | exact pick_here | apply pick_there)); exact rfl; exact rfl; exact rfl; exact rfl; exact rfl; (first | omega | (dsimp only; omega))) | (apply eff_store_rs T; exact rfl; (repeat (first | exact pick_here | apply pick_there)); exact rfl; exact rfl; exact rfl; exact rfl; exact rfl; (first | omega | (dsimp only; omega) | (simp <;> omega))) | (apply eff_store_oR T; exact rfl; exact rfl; (repeat (first | exact pick_here | apply pick_there)); exact rfl; exact rfl; exact rfl; exact rfl; exact rfl; (first | omega | (dsimp only; omega))) | (apply eff_store_oR T; exact rfl; exact add_add _ _ _; (repeat (first | exact pick_here | apply pick_there)); exact rfl; exact rfl; exact rfl; exact rfl; exact rfl; (first | omega | (dsimp only; omega))) | (apply eff_store_oR T; exact rfl; exact (addr_add _ _ _).symm; (repeat (first | exact pick_here | apply pick_there)); exact rfl; exact rfl; exact rfl; exact rfl; exact rfl; (first | omega | (dsimp only; omega))) | (apply eff_store_oR T; exact rfl; exact (addr_zero _).symm; (repeat (first | exact pick_here | apply pick_there)); exact rfl; exact rfl; exact rfl; exact rfl; exact rfl; (first | omega | (dsimp only; omega))) | (apply eff_store_oRs T; exact rfl; exact rfl; (repeat (first | exact pick_here | apply pick_there)); exact rfl; exact rfl; exact rfl; exact rfl; exact rfl; exact rfl; (first | omega | (dsimp only; omega) | (simp <;> omega))) | (apply eff_store_oRs T; exact rfl; exact add_add _ _ _; (repeat (first | exact pick_here | apply pick_there)); exact rfl; exact rfl; exact rfl; exact rfl; exact rfl; exact rfl; (first | omega | (dsimp only; omega) | (simp <;> omega))) | (apply eff_store_oRs T; exact rfl; exact (addr_add _ _ _).symm; (repeat (first | exact pick_here | apply pick_there)); exact rfl; exact rfl; exact rfl; exact rfl; exact rfl; exact rfl; (first | omega | (dsimp only; omega) | (simp <;> omega))) | (apply eff_store_oRs T; exact rfl; exact (addr_zero _).symm; (repeat (first | exact pick_here | apply pick_there)); exact rfl; exact rfl; exact rfl; exact rfl; exact rfl; exact rfl; (first | omega | (dsimp only; omega) | (simp <;> omega))) | (apply eff_mapUpdate T keyS; exact rfl; exact rfl; exact rfl; (repeat (first | exact pick_here | apply pick_there)); exact rfl; exact rfl; exact rfl; exact rfl) | (apply eff_mapUpdate T (keyI .i64); exact rfl; exact rfl; exact rfl; (repeat (first | exact pick_here | apply pick_there)); exact rfl; exact rfl; exact rfl; exact rfl) | (apply eff_insert T keyS; exact rfl; exact rfl; exact rfl; (repeat (first | exact pick_here | apply pick_there)); exact rfl; exact rfl; exact rfl; exact rfl) | (apply eff_insert T (keyI .i64); exact rfl; exact rfl; exact rfl; (repeat (first | exact pick_here | apply pick_there)); exact rfl; exact rfl; exact rfl; exact rfl) | (apply eff_next; exact rfl; (repeat (first | exact pick_here | apply pick_there)); (first | omega | decide | (simp only [Go.Sx.size_mk, List.length_cons, List.length_nil, ByteArray.size_append]; omega) | (simp <;> omega)); exact rfl) | (apply eff_nextE; exact rfl; (repeat (first | exact pick_here | apply pick_there)); (first | omega | decide | (simp only [Go.Sx.size_mk, List.length_cons, List.length_nil, ByteArray.size_append]; omega) | (simp <;> omega)); exact rfl))) : Q := h
theorem xEf {Q : Prop} (h : Q := by (first | (apply eff_box; exact rfl; exact rfl; exact rfl) | (apply eff_max; exact rfl; exact rfl; exact rfl) | (apply eff_min; exact rfl; exact rfl; exact rfl) | (apply eff_makeMap; exact rfl) | (apply eff_range T; exact rfl; exact rfl; exact rfl; exact rfl) | (apply eff_alloc T; exact rfl; exact rfl; exact rfl) | (apply eff_buildSlice0 T; exact rfl; exact rfl; exact rfl; exact rfl) | (apply eff_buildSlice T; exact rfl; exact rfl; exact rfl; exact rfl; exact rfl; exact rfl; exact rfl; exact rfl; exact rfl; exact rfl) | (apply eff_bytes T; exact rfl; exact rfl; exact rfl; exact rfl; exact rfl; exact rfl; exact rfl; exact rfl) | (apply eff_makeSlice T; exact rfl; exact rfl; exact rfl; exact rfl; (first | exact rfl | omega); omega; exact rfl; exact rfl) | (apply eff_conv0 T; exact rfl; (repeat (first | exact pick_here | apply pick_there)); exact rfl; exact rfl; exact rfl; exact rfl; exact rfl) | (apply eff_appendStr T; exact rfl; exact rfl; (repeat (first | exact pick_here | apply pick_there)); exact rfl; exact rfl; exact rfl; exact rfl; exact rfl; exact rfl; (first | omega | (simp <;> omega)); kernel_rfl) | (apply eff_appendF T; exact rfl; exact rfl; (repeat (first | exact pick_here | apply pick_there)); (repeat (first | exact pick_here | apply pick_there)); exact rfl; exact rfl; exact rfl; exact rfl; exact rfl; exact rfl; exact rfl; exact rfl; (first | omega | decide | (simp only [Go.Sx.size_mk, List.length_cons, List.length_nil, ByteArray.size_append]; omega) | (simp <;> omega)); (first | omega | (dsimp only; omega)); (unfold maxLen; omega)) | (apply eff_append T; exact rfl; exact rfl; (repeat (first | exact pick_here | apply pick_there)); (repeat (first | exact pick_here | apply pick_there)); exact rfl; exact rfl; exact rfl; exact rfl; exact rfl; exact rfl; exact rfl; exact rfl; exact rfl; (first | omega | (dsimp only; omega)); (unfold maxLen; omega)) | (apply eff_appendRow T; exact rfl; exact rfl; (repeat (first | exact pick_here | apply pick_there)); (repeat (first | exact find_here | apply find_there)); exact rfl; exact rfl; exact rfl; exact rfl; exact rfl; exact rfl; exact rfl; omega; assumption; (first | omega | (dsimp only; omega)); (unfold maxLen; omega)) | (apply eff_appendRng T; exact rfl; exact rfl; (repeat (first | exact pick_here | apply pick_there)); (focus ((repeat (first | exact find_here | apply find_there)); done)); exact rfl; exact rfl; exact rfl; exact rfl; exact rfl; exact rfl; exact rfl; (first | assumption | omega); assumption; (first | omega | (dsimp only; omega)); (unfold maxLen; omega)))) : Q := h
theorem rr {Q G : Prop} (q : Q) (k : Hold Q → G := by
 intro hdone
 repeat (first
  | (apply w_g; exact xGv; exact rfl)
  | (apply w_idxG T; exact rfl; exact rfl; exact rfl; exact rfl; exact rfl; (focus ((repeat (first | exact find_here | apply find_there)); done)); (first | omega | decide | (simp only [Go.Sx.size_mk, List.length_cons, List.length_nil, ByteArray.size_append]; omega) | (simp <;> omega)); (first | omega | decide | (simp only [Go.Sx.size_mk, List.length_cons, List.length_nil, ByteArray.size_append]; omega) | (simp <;> omega)); (first | omega | (simp <;> omega)); exact rfl)
  | (apply w_idxR T; exact rfl; exact rfl; exact rfl; exact rfl; exact rfl; (focus ((repeat (first | exact find_here | apply find_there)); done)); (first | omega | decide | (simp only [Go.Sx.size_mk, List.length_cons, List.length_nil, ByteArray.size_append]; omega) | (simp <;> omega)); (first | omega | decide | (simp only [Go.Sx.size_mk, List.length_cons, List.length_nil, ByteArray.size_append]; omega) | (simp <;> omega)); (first | omega | (simp <;> omega)); exact rfl)
  | (apply w_ld; exact xLd; exact rfl)
  | apply w_nil
  | apply w_then
  | apply w_seq
  | (apply w_region; exact rfl)
  | (apply w_eff0; exact xSt)
  | (apply w_eff; exact xEf)
  | (apply w_gyes; exact rfl)
  | (apply w_gno; exact rfl; exact rfl)
  | (apply w_gno0; exact rfl)
  | (apply w_gset true; exact rfl; exact rfl; (first | assumption | (simp only [decide_eq_true_eq, decide_eq_false_iff_not, Bool.not_eq_true, Bool.not_eq_false, beq_iff_eq, beq_eq_false_iff_ne, bne_iff_ne, bne_eq_false_iff_eq, ne_eq, Bool.not_eq_true', Bool.not_eq_false', Classical.not_not]; omega) | focus (simp; done)))
  | (apply w_gset false; exact rfl; exact rfl; (first | assumption | (simp only [decide_eq_true_eq, decide_eq_false_iff_not, Bool.not_eq_true, Bool.not_eq_false, beq_iff_eq, beq_eq_false_iff_ne, bne_iff_ne, bne_eq_false_iff_eq, ne_eq, Bool.not_eq_true', Bool.not_eq_false', Classical.not_not]; omega) | focus (simp; done)))
  | apply w_ret
  | apply w_block
  | apply w_skip
  | apply w_exit
  | apply w_label
  | (apply w_true; exact rfl)
  | (apply w_false; exact rfl)
  | (apply w_yes; exact rfl; (first | assumption | (simp only [decide_eq_true_eq, decide_eq_false_iff_not, Bool.not_eq_true, Bool.not_eq_false, beq_iff_eq, beq_eq_false_iff_ne, bne_iff_ne, bne_eq_false_iff_eq, ne_eq, Bool.not_eq_true', Bool.not_eq_false', Classical.not_not]; omega) | focus (simp; done)))
  | (apply w_no; exact rfl; (first | assumption | (simp only [decide_eq_true_eq, decide_eq_false_iff_not, Bool.not_eq_true, Bool.not_eq_false, beq_iff_eq, beq_eq_false_iff_ne, bne_iff_ne, bne_eq_false_iff_eq, ne_eq, Bool.not_eq_true', Bool.not_eq_false', Classical.not_not]; omega) | focus (simp; done)))
  | apply w_thenRet
  | apply w_thenExit
  | apply w_inNormal
  | apply w_inRet
  | apply w_inExit
  | (apply w_inOther; exact rfl)
  | (apply wa_done; kernel_rfl)
  | (apply wa_as true; exact rfl; exact rfl; exact rfl; (fail_if_success exact rfl); (first | assumption | (simp only [decide_eq_true_eq, decide_eq_false_iff_not, Bool.not_eq_true, Bool.not_eq_false, beq_iff_eq, beq_eq_false_iff_ne, bne_iff_ne, bne_eq_false_iff_eq, ne_eq, Bool.not_eq_true', Bool.not_eq_false', Classical.not_not]; omega) | focus (simp; done)))
  | (apply wa_as false; exact rfl; exact rfl; exact rfl; (fail_if_success exact rfl); (first | assumption | (simp only [decide_eq_true_eq, decide_eq_false_iff_not, Bool.not_eq_true, Bool.not_eq_false, beq_iff_eq, beq_eq_false_iff_ne, bne_iff_ne, bne_eq_false_iff_eq, ne_eq, Bool.not_eq_true', Bool.not_eq_false', Classical.not_not]; omega) | focus (simp; done)))
  | (apply wa_g; exact rfl; exact rfl; exact xGn; exact rfl; kernel_rfl)
  | (apply wa_idxG T; exact rfl; exact rfl; exact rfl; exact rfl; exact rfl; exact rfl; exact rfl; (focus ((repeat (first | exact find_here | apply find_there)); done)); (first | omega | decide | (simp only [Go.Sx.size_mk, List.length_cons, List.length_nil, ByteArray.size_append]; omega) | (simp <;> omega)); (first | omega | decide | (simp only [Go.Sx.size_mk, List.length_cons, List.length_nil, ByteArray.size_append]; omega) | (simp <;> omega)); (first | omega | (simp <;> omega)); exact rfl; kernel_rfl)
  | (apply wa_idxR T; exact rfl; exact rfl; exact rfl; exact rfl; exact rfl; exact rfl; exact rfl; (focus ((repeat (first | exact find_here | apply find_there)); done)); (first | omega | decide | (simp only [Go.Sx.size_mk, List.length_cons, List.length_nil, ByteArray.size_append]; omega) | (simp <;> omega)); (first | omega | decide | (simp only [Go.Sx.size_mk, List.length_cons, List.length_nil, ByteArray.size_append]; omega) | (simp <;> omega)); (first | omega | (simp <;> omega)); exact rfl; kernel_rfl)
  | (apply wa_lde; exact rfl; kernel_rfl; exact rfl; exact xLm; exact rfl; kernel_rfl)
  | (apply wa_ld; exact rfl; exact rfl; exact xLd; exact rfl; kernel_rfl; exact rfl)
  | (apply wa_skipQ; exact rfl; exact rfl; exact rfl; exact rfl; exact rfl; kernel_rfl)
  | (apply wa_gq; exact rfl; kernel_rfl; exact rfl; exact xGn; exact rfl; kernel_rfl)
  | (apply wa_ldq; exact rfl; kernel_rfl; exact rfl; exact xLd; exact rfl; kernel_rfl)
  | (apply wa_eff0; exact rfl; kernel_rfl; exact rfl; exact xSt; kernel_rfl; (focus ((repeat (first | exact sub_nil | (apply sub_cons; (first | exact find_here | (repeat (first | exact find_here | apply find_there)))))); done)))
  | (apply wa_effd0; exact rfl; kernel_rfl; exact rfl; exact xSt; kernel_rfl; kernel_rfl)
  | (apply wa_eff; exact rfl; kernel_rfl; exact rfl; exact xEf; kernel_rfl; (intro _; (focus ((repeat (first | exact sub_nil | (apply sub_cons; (first | exact find_here | (repeat (first | exact find_here | apply find_there)))))); done))))
  | (apply wa_effd; exact rfl; kernel_rfl; exact rfl; exact xEf; kernel_rfl; kernel_rfl)
  | (apply wp_ldq; exact rfl; exact rfl; exact xLd; exact rfl; kernel_rfl)
  | (apply wp_eff; exact rfl; exact rfl; exact xEf; kernel_rfl; (intro _; (focus ((repeat (first | exact sub_nil | (apply sub_cons; (first | exact find_here | (repeat (first | exact find_here | apply find_there)))))); done))))
  | (apply wa_eskip; exact rfl; kernel_rfl; exact rfl; exact rfl; exact rfl; kernel_rfl))
 exact hdone.out) : G := k ⟨q⟩
theorem rn {Q G : Prop} (q : Q) (k : Hold Q → G := by
 intro hdone
 repeat (first
  | (apply w_g; exact xGv; exact rfl)
  | (apply w_idxG T; exact rfl; exact rfl; exact rfl; exact rfl; exact rfl; (focus ((repeat (first | exact find_here | apply find_there)); done)); (first | omega | decide | (simp only [Go.Sx.size_mk, List.length_cons, List.length_nil, ByteArray.size_append]; omega) | (simp <;> omega)); (first | omega | decide | (simp only [Go.Sx.size_mk, List.length_cons, List.length_nil, ByteArray.size_append]; omega) | (simp <;> omega)); (first | omega | (simp <;> omega)); exact rfl)
  | (apply w_idxR T; exact rfl; exact rfl; exact rfl; exact rfl; exact rfl; (focus ((repeat (first | exact find_here | apply find_there)); done)); (first | omega | decide | (simp only [Go.Sx.size_mk, List.length_cons, List.length_nil, ByteArray.size_append]; omega) | (simp <;> omega)); (first | omega | decide | (simp only [Go.Sx.size_mk, List.length_cons, List.length_nil, ByteArray.size_append]; omega) | (simp <;> omega)); (first | omega | (simp <;> omega)); exact rfl)
  | (apply w_ld; exact xLd; exact rfl)
  | apply w_nil
  | apply w_then
  | apply w_seq
  | (apply w_eff0; exact xSt)
  | (apply w_eff; exact xEf)
  | (apply w_gyes; exact rfl)
  | (apply w_gno; exact rfl; exact rfl)
  | (apply w_gno0; exact rfl)
  | (apply w_gset true; exact rfl; exact rfl; (first | assumption | (simp only [decide_eq_true_eq, decide_eq_false_iff_not, Bool.not_eq_true, Bool.not_eq_false, beq_iff_eq, beq_eq_false_iff_ne, bne_iff_ne, bne_eq_false_iff_eq, ne_eq, Bool.not_eq_true', Bool.not_eq_false', Classical.not_not]; omega) | focus (simp; done)))
  | (apply w_gset false; exact rfl; exact rfl; (first | assumption | (simp only [decide_eq_true_eq, decide_eq_false_iff_not, Bool.not_eq_true, Bool.not_eq_false, beq_iff_eq, beq_eq_false_iff_ne, bne_iff_ne, bne_eq_false_iff_eq, ne_eq, Bool.not_eq_true', Bool.not_eq_false', Classical.not_not]; omega) | focus (simp; done)))
  | apply w_ret
  | apply w_block
  | apply w_skip
  | apply w_exit
  | apply w_label
  | (apply w_true; exact rfl)
  | (apply w_false; exact rfl)
  | (apply w_yes; exact rfl; (first | assumption | (simp only [decide_eq_true_eq, decide_eq_false_iff_not, Bool.not_eq_true, Bool.not_eq_false, beq_iff_eq, beq_eq_false_iff_ne, bne_iff_ne, bne_eq_false_iff_eq, ne_eq, Bool.not_eq_true', Bool.not_eq_false', Classical.not_not]; omega) | focus (simp; done)))
  | (apply w_no; exact rfl; (first | assumption | (simp only [decide_eq_true_eq, decide_eq_false_iff_not, Bool.not_eq_true, Bool.not_eq_false, beq_iff_eq, beq_eq_false_iff_ne, bne_iff_ne, bne_eq_false_iff_eq, ne_eq, Bool.not_eq_true', Bool.not_eq_false', Classical.not_not]; omega) | focus (simp; done)))
  | apply w_thenRet
  | apply w_thenExit
  | apply w_inNormal
  | apply w_inRet
  | apply w_inExit
  | (apply w_inOther; exact rfl)
  | (apply wa_done; kernel_rfl)
  | (apply wa_as true; exact rfl; exact rfl; exact rfl; (fail_if_success exact rfl); (first | assumption | (simp only [decide_eq_true_eq, decide_eq_false_iff_not, Bool.not_eq_true, Bool.not_eq_false, beq_iff_eq, beq_eq_false_iff_ne, bne_iff_ne, bne_eq_false_iff_eq, ne_eq, Bool.not_eq_true', Bool.not_eq_false', Classical.not_not]; omega) | focus (simp; done)))
  | (apply wa_as false; exact rfl; exact rfl; exact rfl; (fail_if_success exact rfl); (first | assumption | (simp only [decide_eq_true_eq, decide_eq_false_iff_not, Bool.not_eq_true, Bool.not_eq_false, beq_iff_eq, beq_eq_false_iff_ne, bne_iff_ne, bne_eq_false_iff_eq, ne_eq, Bool.not_eq_true', Bool.not_eq_false', Classical.not_not]; omega) | focus (simp; done)))
  | (apply wa_g; exact rfl; exact rfl; exact xGn; exact rfl; kernel_rfl)
  | (apply wa_idxG T; exact rfl; exact rfl; exact rfl; exact rfl; exact rfl; exact rfl; exact rfl; (focus ((repeat (first | exact find_here | apply find_there)); done)); (first | omega | decide | (simp only [Go.Sx.size_mk, List.length_cons, List.length_nil, ByteArray.size_append]; omega) | (simp <;> omega)); (first | omega | decide | (simp only [Go.Sx.size_mk, List.length_cons, List.length_nil, ByteArray.size_append]; omega) | (simp <;> omega)); (first | omega | (simp <;> omega)); exact rfl; kernel_rfl)
  | (apply wa_idxR T; exact rfl; exact rfl; exact rfl; exact rfl; exact rfl; exact rfl; exact rfl; (focus ((repeat (first | exact find_here | apply find_there)); done)); (first | omega | decide | (simp only [Go.Sx.size_mk, List.length_cons, List.length_nil, ByteArray.size_append]; omega) | (simp <;> omega)); (first | omega | decide | (simp only [Go.Sx.size_mk, List.length_cons, List.length_nil, ByteArray.size_append]; omega) | (simp <;> omega)); (first | omega | (simp <;> omega)); exact rfl; kernel_rfl)
  | (apply wa_lde; exact rfl; kernel_rfl; exact rfl; exact xLm; exact rfl; kernel_rfl)
  | (apply wa_ld; exact rfl; exact rfl; exact xLd; exact rfl; kernel_rfl; exact rfl)
  | (apply wa_skipQ; exact rfl; exact rfl; exact rfl; exact rfl; exact rfl; kernel_rfl)
  | (apply wa_gq; exact rfl; kernel_rfl; exact rfl; exact xGn; exact rfl; kernel_rfl)
  | (apply wa_ldq; exact rfl; kernel_rfl; exact rfl; exact xLd; exact rfl; kernel_rfl)
  | (apply wa_eff0; exact rfl; kernel_rfl; exact rfl; exact xSt; kernel_rfl; (focus ((repeat (first | exact sub_nil | (apply sub_cons; (first | exact find_here | (repeat (first | exact find_here | apply find_there)))))); done)))
  | (apply wa_effd0; exact rfl; kernel_rfl; exact rfl; exact xSt; kernel_rfl; kernel_rfl)
  | (apply wa_eff; exact rfl; kernel_rfl; exact rfl; exact xEf; kernel_rfl; (intro _; (focus ((repeat (first | exact sub_nil | (apply sub_cons; (first | exact find_here | (repeat (first | exact find_here | apply find_there)))))); done))))
  | (apply wa_effd; exact rfl; kernel_rfl; exact rfl; exact xEf; kernel_rfl; kernel_rfl)
  | (apply wp_ldq; exact rfl; exact rfl; exact xLd; exact rfl; kernel_rfl)
  | (apply wp_eff; exact rfl; exact rfl; exact xEf; kernel_rfl; (intro _; (focus ((repeat (first | exact sub_nil | (apply sub_cons; (first | exact find_here | (repeat (first | exact find_here | apply find_there)))))); done))))
  | (apply wa_eskip; exact rfl; kernel_rfl; exact rfl; exact rfl; exact rfl; kernel_rfl))
 exact hdone.out) : G := k ⟨q⟩
theorem mixed : Tryz.prog.follows .mixedOrders = true := by kernel_rfl
section
variable {n : Cx} {Q : Exit → Act → World → Prop} {E : Env} {w0 : World} {M : Nat → Prop} {H H' : List Chunk} {l L : List Oper} {d : Nat} {ty : TypeId} {pos : String} {after : Array Edge} {G : World → Prop}
theorem dr (ord ls places : List Nat) {id : Nat} {Hs : List Chunk} (h : WS w0 M H Hs (XO Tryz.prog l n Q (SC Hs) ls E ord l.toArray.size (Array.replicate l.toArray.size false))) (hd : noDef l = true := by exact rfl) (hs : nthsC H places = some Hs := by exact rfl) : Wd w0 M H (XC Tryz.prog n Q E (.region id l.toArray true)) :=
 w_draw mixed ord ls places hd hs h
theorem ca {α : Type} (is : List Nat) {f : FuncId} {vs : List Value} {A B R : List Chunk} {val : α → Value} {out : α → List Chunk} {Φ : α → Prop} {args : Array Operand} {ts : Array TypeId} (hs : FnC Tryz.prog f vs A B val out Φ)
  (h : ∀ z, Φ z → Wd w0 M (out z ++ R) (XR Tryz.prog l n Q ((d, val z) :: E) L)) (ha : E.evs args.toList = some vs := by exact rfl) (hp : picks is H = some (A, R) := by exact rfl) (hl : LendsAll R B := by repeat (first | exact trivial | (apply lend_cons; exact rfl; focus ((repeat (first | exact find_here | apply find_there)); done)) | (apply lend_row; focus ((repeat (first | exact find_here | apply find_there)); done)) | (apply lend_blk; focus ((repeat (first | exact find_here | apply find_there)); done)) | apply lend_nil)) (ho : ∀ x, allW (out x) = true := by exact fun _ => rfl) (hn : Nat.blt d n.m = true := by exact rfl) :
  Wd w0 M H (XR Tryz.prog l n Q E (⟨some d, .call { callee := .value (.func f), args := args, argTypes := ts }, ty, pos, after, none⟩ :: L)) := w_call is hs ha hp hl ho hn h
theorem cav {α : Type} (is : List Nat) {f : FuncId} {vs full : List Value} {first cap : Array Value} {fo : Operand} {A B R : List Chunk} {val : α → Value} {out : α → List Chunk} {Φ : α → Prop} {args : Array Operand} {ts : Array TypeId} (hs : FnC Tryz.prog f full A B val out Φ)
  (h : ∀ z, Φ z → Wd w0 M (out z ++ R) (XR Tryz.prog l n Q ((d, val z) :: E) L)) (hf : E.ev fo = some (.func (.func f) first cap) := by exact rfl) (ha : E.evs args.toList = some vs := by exact rfl) (hfull : first.toList ++ vs ++ cap.toList = full := by exact rfl) (hp : picks is H = some (A, R) := by exact rfl) (hl : LendsAll R B := by repeat (first | exact trivial | (apply lend_cons; exact rfl; focus ((repeat (first | exact find_here | apply find_there)); done)) | (apply lend_row; focus ((repeat (first | exact find_here | apply find_there)); done)) | (apply lend_blk; focus ((repeat (first | exact find_here | apply find_there)); done)) | apply lend_nil)) (ho : ∀ x, allW (out x) = true := by exact fun _ => rfl) (hn : Nat.blt d n.m = true := by exact rfl) :
  Wd w0 M H (XR Tryz.prog l n Q E (⟨some d, .call { callee := .value fo, args := args, argTypes := ts }, ty, pos, after, none⟩ :: L)) := w_eff (eff_callv is hs hf ha hfull hp hl ho hn) h
theorem we {α : Type} {A R : List Chunk} {val : α → Value} {out : α → List Chunk} {Φ : α → Prop} {fn : Func} {e : Exit} {rs : List ResultVar} {vs : List Value} (x : α) (is : List Nat) (hx : Φ x) (hds : n.ds = [] := by exact rfl) (he : e = .ret ∨ e = .normal := by first | exact .inl rfl | exact .inr rfl) (hf : fn.results = rs.toArray := by exact rfl)
  (hr : ResOk Tryz.prog n H E rs vs := by repeat (first | exact ResOk.nil | (apply ResOk.tmp; exact rfl) | (apply ResOk.cell; exact xLd))) (hv : packR vs = val x := by exact rfl) (hp : picks is H = some (out x, R) := by exact rfl) :
  Wd w0 (ownsW A) H (XQ n (bodyPost Tryz.prog fn (Ret w0 A val out Φ)) e E) := w_endr x is hds he hf hr hv hp hx
theorem weE {α : Type} {A : List Chunk} {val : α → Value} {out : α → List Chunk} {Φ : α → Prop} {fn : Func} {e : Exit} {rs : List ResultVar} {vs : List Value} (x : α) (hx : Φ x) (hH : H = out x := by exact rfl) (hds : n.ds = [] := by exact rfl) (he : e = .ret ∨ e = .normal := by first | exact .inl rfl | exact .inr rfl) (hf : fn.results = rs.toArray := by exact rfl)
  (hr : ResOk Tryz.prog n H E rs vs := by repeat (first | exact ResOk.nil | (apply ResOk.tmp; exact rfl) | (apply ResOk.cell; exact xLd))) (hv : packR vs = val x := by exact rfl) :
  Wd w0 (ownsW A) H (XQ n (bodyPost Tryz.prog fn (Ret w0 A val out Φ)) e E) := fun w hw =>
 xq_ret hds he (fun a ha => res_results hf hr ha hw.sc) ⟨x, by rw [hv], by rw [← hH]; exact hw, hx⟩
theorem weM0 {α : Type} {A R : List Chunk} {val : α → Value} {out : α → List Chunk} {Φ : α → Prop} {fn : Func} {e : Exit} {rs : List ResultVar} {vs : List Value} (x : α) (is : List Nat) (hx : Φ x) (hds : n.ds = [] := by exact rfl) (he : e = .ret ∨ e = .normal := by first | exact .inl rfl | exact .inr rfl) (hf : fn.results = rs.toArray := by exact rfl)
  (hr : ResOk Tryz.prog n H E rs vs := by repeat (first | exact ResOk.nil | (apply ResOk.tmp; exact rfl) | (apply ResOk.cell; exact xLd))) (hv : packR vs = val x := by exact rfl) (hp : picks is H = some (out x, R) := by exact rfl) :
  Wd w0 (ownsW A) H (XQ n (bodyM Tryz.prog fn (Ret w0 A val out Φ)) e E) := w_endM0 x is hds he hf hr hv hp hx
theorem weM1 {α : Type} {D i : Nat} {H1 A R : List Chunk} {val : α → Value} {out : α → List Chunk} {Φ : α → Prop} {fn : Func} {e : Exit} {rs : List ResultVar} {vs : List Value} (x : α) (is : List Nat) (hx : Φ x) (hds : n.ds = [markD D] := by exact rfl) (hp0 : Sx.pick H i = some (defD D, H1) := by (repeat (first | exact pick_here | apply pick_there))) (he : e = .ret ∨ e = .normal := by first | exact .inl rfl | exact .inr rfl) (hf : fn.results = rs.toArray := by exact rfl)
  (hr : ResOk Tryz.prog n H1 E rs vs := by repeat (first | exact ResOk.nil | (apply ResOk.tmp; exact rfl) | (apply ResOk.cell; exact xLd))) (hv : packR vs = val x := by exact rfl) (hp : picks is H1 = some (out x, R) := by exact rfl) :
  Wd w0 (ownsW A) H (XQ n (bodyM Tryz.prog fn (Ret w0 A val out Φ)) e E) := w_endM1 x is hds hp0 he hf hr hv hp hx
theorem cad {α : Type} (is : List Nat) {f : FuncId} {vs : List Value} {A B R Hs Hk : List Chunk} {val : α → Value} {out : α → List Chunk} {Φ : α → Prop} {args : Array Operand} {ts : Array TypeId} {ls ord : List Nat} {fuel i : Nat} {listed : Array Bool} {g : Option (Nat × Bool)} (hs : FnC Tryz.prog f vs A B val out Φ)
  (h : ∀ z, Φ z → WS w0 M (out z ++ R) Hs (XO Tryz.prog l n Q (SC Hs) ls ((d, val z) :: E) ord fuel (listed.setIfInBounds i true)))
  (hi : nthO l i = some ⟨some d, .call { callee := .value (.func f), args := args, argTypes := ts }, ty, pos, after, g⟩ := by exact rfl) (hr : (Region.ready .any l.toArray listed == [i]) = true := by kernel_rfl) (hg : guardYes l E g = true := by exact rfl)
  (ha : E.evs args.toList = some vs := by exact rfl) (hp : picks is H = some (A, R) := by exact rfl) (hl : LendsAll R B := by repeat (first | exact trivial | (apply lend_cons; exact rfl; focus ((repeat (first | exact find_here | apply find_there)); done)) | (apply lend_row; focus ((repeat (first | exact find_here | apply find_there)); done)) | (apply lend_blk; focus ((repeat (first | exact find_here | apply find_there)); done)) | apply lend_nil)) (ho : ∀ x, allW (out x) = true := by exact fun _ => rfl) (hn : Nat.blt d n.m = true := by exact rfl)
  (hq' : quietI l.toArray i = false := by kernel_rfl) (hk : ∀ z, Sub Hs (out z ++ R) := by intro _; (focus ((repeat (first | exact sub_nil | (apply sub_cons; (first | exact find_here | (repeat (first | exact find_here | apply find_there)))))); done))) :
  WS w0 M H Hk (XO Tryz.prog l n Q (SC Hs) ls E (i :: ord) (fuel + 1) listed) := wa_eff hi hr hg (eff_call is hs ha hp hl ho hn) hq' hk h
theorem cl {α : Type} {f : FuncId} {vs : List Value} {A B R : List Chunk} {val : α → Value} {out : α → List Chunk} {Φ : α → Prop} {args : Array Operand} {ts : Array TypeId} (hs : FnC Tryz.prog f vs A B val out Φ)
  (h : ∀ z, Φ z → Wd w0 M (out z ++ R) (XR Tryz.prog l n Q ((d, val z) :: E) L)) (ha : E.evs args.toList = some vs := by exact rfl) (hp : Has H A R := by repeat (first | exact Has.nil | (apply Has.cons; focus ((repeat (first | exact pick_here | apply pick_there)); done)) | apply Has.nrow | apply Has.gen0)) (hl : LendsAll R B := by repeat (first | exact trivial | (apply lend_cons; exact rfl; focus ((repeat (first | exact find_here | apply find_there)); done)) | (apply lend_row; focus ((repeat (first | exact find_here | apply find_there)); done)) | (apply lend_blk; focus ((repeat (first | exact find_here | apply find_there)); done)) | apply lend_nil)) (ho : ∀ x, allW (out x) = true := by exact fun _ => rfl) (hn : Nat.blt d n.m = true := by exact rfl) :
  Wd w0 M H (XR Tryz.prog l n Q E (⟨some d, .call { callee := .value (.func f), args := args, argTypes := ts }, ty, pos, after, none⟩ :: L)) := w_has hp (w_call _ hs ha (picks_zeros A R) hl ho hn h)
theorem clv {α : Type} {f : FuncId} {vs full : List Value} {first cap : Array Value} {fo : Operand} {A B R : List Chunk} {val : α → Value} {out : α → List Chunk} {Φ : α → Prop} {args : Array Operand} {ts : Array TypeId} (hs : FnC Tryz.prog f full A B val out Φ)
  (h : ∀ z, Φ z → Wd w0 M (out z ++ R) (XR Tryz.prog l n Q ((d, val z) :: E) L)) (hf : E.ev fo = some (.func (.func f) first cap) := by exact rfl) (ha : E.evs args.toList = some vs := by exact rfl) (hfull : first.toList ++ vs ++ cap.toList = full := by exact rfl) (hp : Has H A R := by repeat (first | exact Has.nil | (apply Has.cons; focus ((repeat (first | exact pick_here | apply pick_there)); done)) | apply Has.nrow | apply Has.gen0)) (hl : LendsAll R B := by repeat (first | exact trivial | (apply lend_cons; exact rfl; focus ((repeat (first | exact find_here | apply find_there)); done)) | (apply lend_row; focus ((repeat (first | exact find_here | apply find_there)); done)) | (apply lend_blk; focus ((repeat (first | exact find_here | apply find_there)); done)) | apply lend_nil)) (ho : ∀ x, allW (out x) = true := by exact fun _ => rfl) (hn : Nat.blt d n.m = true := by exact rfl) :
  Wd w0 M H (XR Tryz.prog l n Q E (⟨some d, .call { callee := .value fo, args := args, argTypes := ts }, ty, pos, after, none⟩ :: L)) := w_has hp (w_eff (eff_callv _ hs hf ha hfull (picks_zeros A R) hl ho hn) h)
theorem en {α : Type} {A R : List Chunk} {val : α → Value} {out : α → List Chunk} {Φ : α → Prop} {fn : Func} {e : Exit} {rs : List ResultVar} {vs : List Value} (x : α) (hx : Φ x) (hds : n.ds = [] := by exact rfl) (he : e = .ret ∨ e = .normal := by first | exact .inl rfl | exact .inr rfl) (hf : fn.results = rs.toArray := by exact rfl)
  (hr : ResOk Tryz.prog n H E rs vs := by repeat (first | exact ResOk.nil | (apply ResOk.tmp; exact rfl) | (apply ResOk.cell; exact xLd))) (hv : packR vs = val x := by exact rfl) (hp : Has H (out x) R := by repeat (first | exact Has.nil | (apply Has.cons; focus ((repeat (first | exact pick_here | apply pick_there)); done)) | apply Has.nrow | apply Has.gen0)) :
  Wd w0 (ownsW A) H (XQ n (bodyPost Tryz.prog fn (Ret w0 A val out Φ)) e E) := fun w hw =>
 xq_ret hds he (fun a ha => res_results hf hr ha hw.sc) ⟨x, by rw [hv], hw.hasA hp, hx⟩
theorem lo {α : Type} {c : Code} (tmps : List Nat) (cv : α → Env) (hs : α → List (Nat × Chunk)) (φ : α → Prop) (μ : α → Nat) (x0 : α) {Er : Env} {Ev : α → Env} {Hv : α → List Chunk}
  (hφ : φ x0)
  (round : ∀ x, φ x → ∀ K : Act → World → Prop, (∀ y E', φ y → μ y < μ x → EnvSub E' (Ev y) → Wd w0 M (Hv y) (fun w => ∀ a, EnvOk a E' n → K a w)) → Wd w0 M (Hv x) (XC Tryz.prog n (Exit.then K Q) (Ev x) c))
  (hr : E.restr tmps = some Er := by exact rfl) (hEv : ∀ x, Env.app (cv x) Er = some (Ev x) := by exact fun _ => rfl) (hHv : ∀ x, setCs H (hs x) = some (Hv x) := by exact fun _ => rfl) (hE : EnvSub E (Ev x0) := by repeat (first | exact env_nil | (apply env_cons; exact rfl))) (hH : H = Hv x0 := by exact rfl) : Wd w0 M H (XC Tryz.prog n Q E (.loop c)) :=
 w_loopC tmps cv hs φ μ x0 hr hEv hHv hE hH hφ round
theorem ro {α : Type} {K : Act → World → Prop} {Ev : α → Env} {Hv : α → List Chunk} {φ : α → Prop} {μ : α → Nat} {x : α} {R : List Chunk} (hK : ∀ y E', φ y → μ y < μ x → EnvSub E' (Ev y) → Wd w0 M (Hv y) (fun w => ∀ a, EnvOk a E' n → K a w))
  (y : α) (hφ : φ y) (hμ : μ y < μ x := by (try dsimp only); omega) (hp : Has H (Hv y) R := by repeat (first | exact Has.nil | (apply Has.cons; focus ((repeat (first | exact pick_here | apply pick_there)); done)) | apply Has.nrow | apply Has.gen0)) (hE : EnvSub E (Ev y) := by repeat (first | exact env_nil | (apply env_cons; exact rfl))) : Wd w0 M H (XQ n (Exit.then K Q) .normal E) := w_roundC hK y hφ hμ hp hE
theorem dx (ord ls ex : List Nat) {id : Nat} {Hs : List Chunk} (h : WS w0 M H Hs (XO Tryz.prog l n Q (SC Hs) ls E ord l.toArray.size (Array.replicate l.toArray.size false))) (hd : noDef l = true := by exact rfl) (hs : dropCs H ex = some Hs := by exact rfl) : Wd w0 M H (XC Tryz.prog n Q E (.region id l.toArray true)) :=
 w_drawX mixed ord ls ex hd hs h
theorem wa_has {l : List Oper} {Hk A R : List Chunk} {G : World → Prop} (hp : Has H A R) (h : WS w0 M (A ++ R) Hk G) : WS w0 M H Hk G := fun w hw hs => h w (hw.has hp) hs
theorem cld {α : Type} {f : FuncId} {vs : List Value} {A B R Hs Hk : List Chunk} {val : α → Value} {out : α → List Chunk} {Φ : α → Prop} {args : Array Operand} {ts : Array TypeId} {ls ord : List Nat} {fuel i : Nat} {listed : Array Bool} {g : Option (Nat × Bool)} (hs : FnC Tryz.prog f vs A B val out Φ)
  (h : ∀ z, Φ z → WS w0 M (out z ++ R) Hs (XO Tryz.prog l n Q (SC Hs) ls ((d, val z) :: E) ord fuel (listed.setIfInBounds i true)))
  (hi : nthO l i = some ⟨some d, .call { callee := .value (.func f), args := args, argTypes := ts }, ty, pos, after, g⟩ := by exact rfl) (hr : (Region.ready .any l.toArray listed == [i]) = true := by kernel_rfl) (hg : guardYes l E g = true := by exact rfl)
  (ha : E.evs args.toList = some vs := by exact rfl) (hp : Has H A R := by repeat (first | exact Has.nil | (apply Has.cons; focus ((repeat (first | exact pick_here | apply pick_there)); done)) | apply Has.nrow | apply Has.gen0)) (hl : LendsAll R B := by repeat (first | exact trivial | (apply lend_cons; exact rfl; focus ((repeat (first | exact find_here | apply find_there)); done)) | (apply lend_row; focus ((repeat (first | exact find_here | apply find_there)); done)) | (apply lend_blk; focus ((repeat (first | exact find_here | apply find_there)); done)) | apply lend_nil)) (ho : ∀ x, allW (out x) = true := by exact fun _ => rfl) (hn : Nat.blt d n.m = true := by exact rfl)
  (hq' : quietI l.toArray i = false := by kernel_rfl) (hk : ∀ z, Sub Hs (out z ++ R) := by intro _; (focus ((repeat (first | exact sub_nil | (apply sub_cons; (first | exact find_here | (repeat (first | exact find_here | apply find_there)))))); done))) :
  WS w0 M H Hk (XO Tryz.prog l n Q (SC Hs) ls E (i :: ord) (fuel + 1) listed) := wa_has (l := l) hp (wa_eff hi hr hg (eff_call _ hs ha (picks_zeros A R) hl ho hn) hq' hk h)
theorem cle {α : Type} {f : FuncId} {vs : List Value} {A B R Hk : List Chunk} {val : α → Value} {out : α → List Chunk} {Φ : α → Prop} {args : Array Operand} {ts : Array TypeId} {S : World → Prop} {ls ord : List Nat} {fuel i : Nat} {listed : Array Bool} {g : Option (Nat × Bool)} (hs : FnC Tryz.prog f vs A B val out Φ)
  (h : ∀ z, Φ z → WS w0 M (out z ++ R) [] (XO Tryz.prog l n Q S ls ((d, val z) :: E) ord fuel (listed.setIfInBounds i true)))
  (hi : nthO l i = some ⟨some d, .call { callee := .value (.func f), args := args, argTypes := ts }, ty, pos, after, g⟩ := by exact rfl) (hr : (Region.ready .any l.toArray listed == [i]) = true := by kernel_rfl) (hg : guardYes l E g = true := by exact rfl)
  (ha : E.evs args.toList = some vs := by exact rfl) (hp : Has H A R := by repeat (first | exact Has.nil | (apply Has.cons; focus ((repeat (first | exact pick_here | apply pick_there)); done)) | apply Has.nrow | apply Has.gen0)) (hl : LendsAll R B := by repeat (first | exact trivial | (apply lend_cons; exact rfl; focus ((repeat (first | exact find_here | apply find_there)); done)) | (apply lend_row; focus ((repeat (first | exact find_here | apply find_there)); done)) | (apply lend_blk; focus ((repeat (first | exact find_here | apply find_there)); done)) | apply lend_nil)) (ho : ∀ x, allW (out x) = true := by exact fun _ => rfl) (hn : Nat.blt d n.m = true := by exact rfl)
  (hq' : quietI l.toArray i = false := by kernel_rfl) (hk : keepS l.toArray ls i = false := by kernel_rfl) :
  WS w0 M H Hk (XO Tryz.prog l n Q S ls E (i :: ord) (fuel + 1) listed) := wa_has (l := l) hp (wa_effd hi hr hg (eff_call _ hs ha (picks_zeros A R) hl ho hn) hq' hk h)
theorem mo (ex : List Nat) {l : List Oper} {Hs Hs' Hk : List Chunk} {ls ord : List Nat} {fuel : Nat} {listed : Array Bool} (h : WS w0 M H Hs' (XO Tryz.prog l n Q (SC Hs') ls E ord fuel listed)) (hs : dropCs H ex = some Hs' := by exact rfl) (h1 : Sub Hs Hs' := by (focus ((repeat (first | exact sub_nil | (apply sub_cons; (first | exact find_here | (repeat (first | exact find_here | apply find_there)))))); done))) : WS w0 M H Hk (XO Tryz.prog l n Q (SC Hs) ls E ord fuel listed) := wa_more ex hs h1 h
theorem tw {Hk : List Chunk} {ls o : List Nat} {fuel i j : Nat} {listed : Array Bool} {S : World → Prop} (ordi ordj : List Nat) (h1 : WS w0 M H Hk (XOP Tryz.prog l n Q S ls E ordi i fuel listed)) (h2 : WS w0 M H Hk (XOP Tryz.prog l n Q S ls E ordj j fuel listed)) (hr : (Region.ready .any l.toArray listed == [i, j]) = true := by kernel_rfl) :
  WS w0 M H Hk (XO Tryz.prog l n Q S ls E o (fuel + 1) listed) := wa_two ordi ordj hr h1 h2
theorem wp_has {l : List Oper} {Hk A R : List Chunk} {G : World → Prop} (hp : Has H A R) (h : WS w0 M (A ++ R) Hk G) : WS w0 M H Hk G := fun w hw hs => h w (hw.has hp) hs
theorem clp {α : Type} {f : FuncId} {vs : List Value} {A B R Hs Hk : List Chunk} {val : α → Value} {out : α → List Chunk} {Φ : α → Prop} {args : Array Operand} {ts : Array TypeId} {ls ord : List Nat} {fuel i : Nat} {listed : Array Bool} {g : Option (Nat × Bool)} (hs : FnC Tryz.prog f vs A B val out Φ)
  (h : ∀ z, Φ z → WS w0 M (out z ++ R) Hs (XO Tryz.prog l n Q (SC Hs) ls ((d, val z) :: E) ord fuel (listed.setIfInBounds i true)))
  (hi : nthO l i = some ⟨some d, .call { callee := .value (.func f), args := args, argTypes := ts }, ty, pos, after, g⟩ := by exact rfl) (hg : guardYes l E g = true := by exact rfl)
  (ha : E.evs args.toList = some vs := by exact rfl) (hp : Has H A R := by repeat (first | exact Has.nil | (apply Has.cons; focus ((repeat (first | exact pick_here | apply pick_there)); done)) | apply Has.nrow | apply Has.gen0)) (hl : LendsAll R B := by repeat (first | exact trivial | (apply lend_cons; exact rfl; focus ((repeat (first | exact find_here | apply find_there)); done)) | (apply lend_row; focus ((repeat (first | exact find_here | apply find_there)); done)) | (apply lend_blk; focus ((repeat (first | exact find_here | apply find_there)); done)) | apply lend_nil)) (ho : ∀ x, allW (out x) = true := by exact fun _ => rfl) (hn : Nat.blt d n.m = true := by exact rfl)
  (hq' : quietI l.toArray i = false := by kernel_rfl) (hk : ∀ z, Sub Hs (out z ++ R) := by intro _; (focus ((repeat (first | exact sub_nil | (apply sub_cons; (first | exact find_here | (repeat (first | exact find_here | apply find_there)))))); done))) :
  WS w0 M H Hk (XOP Tryz.prog l n Q (SC Hs) ls E ord i fuel listed) := wp_has (l := l) hp (wp_eff hi hg (eff_call _ hs ha (picks_zeros A R) hl ho hn) hq' hk h)
theorem hv {R : List Chunk} (A : List Chunk) (h : Wd w0 M A G) (hp : Has H A R := by repeat (first | exact Has.nil | (apply Has.cons; focus ((repeat (first | exact pick_here | apply pick_there)); done)) | apply Has.nrow | apply Has.gen0)) : Wd w0 M H G := w_hasA hp h
end
end Go.Proofs.YtkolmklfgbimoaaGreatDoor
namespace Go.Proofs.YtkolmklfgbimoaaGreatDoor
open Go Go.Sx Go.Sx.Chunk
set_option maxRecDepth 100000
structure In where
 mk ::
 (op a b c imm : Int)
deriving DecidableEq
def inV (i : In) : List Value := [.int .i64 i.op, .int .i64 i.a, .int .i64 i.b, .int .i64 i.c, .int .i64 i.imm]
def inG (i : In) : Value := .agg #[.int .i64 i.op, .int .i64 i.a, .int .i64 i.b, .int .i64 i.c, .int .i64 i.imm]
def insC (l : List In) : List Value := l.flatMap inV
structure Sy where
 mk ::
 (name : ByteArray) (pl : Int)
deriving DecidableEq
def syV (s : Sy) : List Value := [.string s.name, .int .i64 s.pl]
def syC (l : List Sy) : List Value := l.flatMap syV
structure Pa where
 mk ::
 (pl kind n : Int)
deriving DecidableEq
def paV (p : Pa) : List Value := [.int .i64 p.pl, .int .i64 p.kind, .int .i64 p.n]
def paC (l : List Pa) : List Value := l.flatMap paV
def paG (p : Pa) : Value := .agg #[.int .i64 p.pl, .int .i64 p.kind, .int .i64 p.n]
def strC (l : List ByteArray) : List Value := l.map Value.string
theorem strC_len (l : List ByteArray) : (strC l).length = l.length := by simp [strC]
theorem strC_at {l : List ByteArray} {i : Nat} {s : ByteArray} (h : l[i]? = some s) : (strC l)[i]? = some (.string s) := by simp [strC, h]
theorem insC_len (l : List In) : (insC l).length = l.length * 5 := flat_len (cells := inV) (sz := 5) (fun _ => rfl) l
theorem syC_len (l : List Sy) : (syC l).length = l.length * 2 := flat_len (cells := syV) (sz := 2) (fun _ => rfl) l
theorem paC_len (l : List Pa) : (paC l).length = l.length * 3 := flat_len (cells := paV) (sz := 3) (fun _ => rfl) l
theorem some_at {α : Type} {l : List α} {k : Nat} (h : k < l.length) : ∃ e, l[k]? = some e := ⟨l[k], by simp [h]⟩
theorem insC_all {l : List In} {k : Nat} {e : In} (h : l[k]? = some e) (n : Nat) (hn : n = k * 5) : ((insC l).drop n).take 5 = inV e := by subst hn; exact flat_get (cells := inV) (sz := 5) (fun _ => rfl) h
theorem syC_all {l : List Sy} {k : Nat} {e : Sy} (h : l[k]? = some e) (n : Nat) (hn : n = k * 2) : ((syC l).drop n).take 2 = syV e := by subst hn; exact flat_get (cells := syV) (sz := 2) (fun _ => rfl) h
theorem paC_all {l : List Pa} {k : Nat} {e : Pa} (h : l[k]? = some e) (n : Nat) (hn : n = k * 3) : ((paC l).drop n).take 3 = paV e := by subst hn; exact flat_get (cells := paV) (sz := 3) (fun _ => rfl) h
theorem insC_at {l : List In} {k : Nat} {e : In} (h : l[k]? = some e) (j : Nat) (hj : j < 5) (n : Nat) (hn : n = k * 5 + j) : (insC l)[n]? = (inV e)[j]? := by subst hn; exact flat_at (cells := inV) (sz := 5) (fun _ => rfl) h hj
theorem syC_at {l : List Sy} {k : Nat} {e : Sy} (h : l[k]? = some e) (j : Nat) (hj : j < 2) (n : Nat) (hn : n = k * 2 + j) : (syC l)[n]? = (syV e)[j]? := by subst hn; exact flat_at (cells := syV) (sz := 2) (fun _ => rfl) h hj
theorem paC_at {l : List Pa} {k : Nat} {e : Pa} (h : l[k]? = some e) (j : Nat) (hj : j < 3) (n : Nat) (hn : n = k * 3 + j) : (paC l)[n]? = (paV e)[j]? := by subst hn; exact flat_at (cells := paV) (sz := 3) (fun _ => rfl) h hj
end Go.Proofs.YtkolmklfgbimoaaGreatDoor
namespace Go.Proofs.YtkolmklfgbimoaaGreatDoor.Sc
open Go Go.Sx Go.Sx.Chunk
set_option maxRecDepth 100000
def isLetter (c : Int) : Bool := (decide (97 ≤ c) && decide (c ≤ 122)) || (decide (65 ≤ c) && decide (c ≤ 90))
def isDigit (c : Int) : Bool := decide (48 ≤ c) && decide (c ≤ 57)
theorem digitC (c : Int) : FnC (α := Unit) Tryz.prog 118 [.int .u8 c] [] [] (fun _ => .bool (isDigit c)) (fun _ => []) (fun _ => True) := by
 refine fn_intro Tryz.func118 Tryz.ntmps118 rfl rfl rfl (fun w0 => ?_)
 try simp only [Sx.ap1, Sx.ap2, Sx.ap3]
 by_cases h : 48 ≤ c
 ·skip
  refine rr ?_
  refine we () [] trivial (hv := ?_)
  simp only [isDigit, packR, h, decide_true, Bool.true_and]
 ·skip
  refine rr ?_
  refine we () [] trivial (hv := ?_)
  simp [isDigit, packR, h]
theorem letterC (c : Int) : FnC (α := Unit) Tryz.prog 115 [.int .u8 c] [] [] (fun _ => .bool (isLetter c)) (fun _ => []) (fun _ => True) := by
 refine fn_intro Tryz.func115 Tryz.ntmps115 rfl rfl rfl (fun w0 => ?_)
 try simp only [Sx.ap1, Sx.ap2, Sx.ap3]
 by_cases h : 97 ≤ c
 ·by_cases h2 : c ≤ 122
  ·skip
   refine rr ?_
   refine we () [] trivial (hv := ?_)
   simp [isLetter, packR, h, h2]
  ·skip
   refine rr ?_
   refine we () [] trivial (hv := ?_)
   simp [isLetter, packR, h, h2]
   intros; omega
 ·by_cases h3 : 65 ≤ c
  ·skip
   refine rr ?_
   refine we () [] trivial (hv := ?_)
   simp [isLetter, packR, h, h3]
  ·skip
   refine rr ?_
   refine we () [] trivial (hv := ?_)
   simp [isLetter, packR, h, h3]
theorem ldC (c : Int) : FnC (α := Unit) Tryz.prog 117 [.int .u8 c] [] [] (fun _ => .bool (isLetter c || isDigit c)) (fun _ => []) (fun _ => True) := by
 refine fn_intro Tryz.func117 Tryz.ntmps117 rfl rfl rfl (fun w0 => ?_)
 try simp only [Sx.ap1, Sx.ap2, Sx.ap3]
 refine rr ?_
 refine ca [] (letterC c) ?_
 intro x hx
 try simp only [Sx.ap1, Sx.ap2, Sx.ap3]
 cases h : isLetter c with
 | true =>
  refine rr ?_
  exact we () [] trivial
 | false =>
  refine rr ?_
  refine ca [] (digitC c) ?_
  intro x hx
  try simp only [Sx.ap1, Sx.ap2, Sx.ap3]
  refine rr ?_
  refine we () [] trivial (hv := ?_)
  simp [packR]
end Go.Proofs.YtkolmklfgbimoaaGreatDoor.Sc
namespace Go.Proofs.YtkolmklfgbimoaaGreatDoor.Sc
open Go Go.Sx Go.Sx.Chunk
set_option maxRecDepth 100000
def idxB (s : ByteArray) (c : Int) : Int := Lib.indexByte s.data.toList c.toNat.toUInt8
theorem ext27 (s : ByteArray) (c : Int) (w : World) : (callFunc 163 #[.string s, .int .u8 c]).run Tryz.prog w = .ok (.value (.int .i64 (idxB s c))) w := by
 rw [run_callFunc_extern Tryz.func163 (by kernel_rfl) (by kernel_rfl) (by kernel_rfl) (e := Extern.BytealgIndexByte.indexByte) (by kernel_rfl), Lib.run_indexByteString]
 rfl
theorem idx19 (s : ByteArray) (c : Int) : FnC (α := Unit) Tryz.prog 114 [.string s, .int .u8 c] [] [] (fun _ => .int .i64 (idxB s c)) (fun _ => []) (fun _ => True) := by
 refine fn_intro Tryz.func114 Tryz.ntmps114 rfl rfl rfl (fun w0 => ?_)
 try simp only [Sx.ap1, Sx.ap2, Sx.ap3]
 refine rr ?_
 refine w_g (g_call rfl (ext27 s c)) rfl ?_
 refine rr ?_
 exact we () [] trivial
theorem idxC (s : ByteArray) (c : Int) : FnC (α := Unit) Tryz.prog 58 [.string s, .int .u8 c] [] [] (fun _ => .int .i64 (idxB s c)) (fun _ => []) (fun _ => True) := by
 refine fn_intro Tryz.func58 Tryz.ntmps58 rfl rfl rfl (fun w0 => ?_)
 try simp only [Sx.ap1, Sx.ap2, Sx.ap3]
 refine rr ?_
 refine ca [] (idx19 s c) ?_
 intro x hx
 try simp only [Sx.ap1, Sx.ap2, Sx.ap3]
 refine rr ?_
 exact we () [] trivial
def hasP (s p : ByteArray) : Bool := decide (p.size ≤ s.size) && decide (s.extract 0 p.size = p)
theorem pre29 (s p : ByteArray) : FnC (α := Unit) Tryz.prog 210 [.string s, .string p] [] [] (fun _ => .bool (hasP s p)) (fun _ => []) (fun _ => True) := by
 refine fn_intro Tryz.func210 Tryz.ntmps210 rfl rfl rfl (fun w0 => ?_)
 try simp only [Sx.ap1, Sx.ap2, Sx.ap3]
 by_cases h : p.size ≤ s.size
 ·skip
  refine rr ?_
  refine we () [] trivial (hv := ?_)
  simp [packR, hasP, h]
 ·skip
  refine rr ?_
  refine we () [] trivial (hv := ?_)
  simp [packR, hasP, h]
theorem preC (s p : ByteArray) : FnC (α := Unit) Tryz.prog 164 [.string s, .string p] [] [] (fun _ => .bool (hasP s p)) (fun _ => []) (fun _ => True) := by
 refine fn_intro Tryz.func164 Tryz.ntmps164 rfl rfl rfl (fun w0 => ?_)
 try simp only [Sx.ap1, Sx.ap2, Sx.ap3]
 refine rr ?_
 refine ca [] (pre29 s p) ?_
 intro x hx
 try simp only [Sx.ap1, Sx.ap2, Sx.ap3]
 refine rr ?_
 exact we () [] trivial
end Go.Proofs.YtkolmklfgbimoaaGreatDoor.Sc
namespace Go.Proofs.YtkolmklfgbimoaaGreatDoor.Sc
open Go Go.Sx Go.Sx.Chunk
set_option maxRecDepth 100000
def txt (s : ByteArray) : List UInt8 := s.data.toList
theorem txt_len (s : ByteArray) : (txt s).length = s.size := by simp [txt]
theorem txt_get (s : ByteArray) (i : Nat) (b : UInt8) (h : (txt s)[i]? = some b) : s[i]? = some b := by
 have hi : i < s.size := by rw [← txt_len]; exact (List.getElem?_eq_some_iff.1 h).1
 simp only [txt] at h
 rw [getElem?_pos s i hi]
 simp only [Array.getElem?_toList] at h
 rw [← h]
 simp [ByteArray.getElem_eq_getElem_data, hi]
theorem drop_cons {l : List UInt8} {i : Nat} {b : UInt8} (h : l[i]? = some b) : l.drop i = b :: l.drop (i + 1) := by
 obtain ⟨hi, hb⟩ := List.getElem?_eq_some_iff.1 h
 rw [List.drop_eq_getElem_cons hi, hb]
theorem get_some {l : List UInt8} {i : Nat} (h : i < l.length) : ∃ b, l[i]? = some b := ⟨l[i], by simp [h]⟩
def runL (p : Int → Bool) : List UInt8 → Nat
 | [] => 0
 | b :: l => if p (b.toNat : Int) then runL p l + 1 else 0
theorem runL_le (p : Int → Bool) : ∀ l, runL p l ≤ l.length
 | [] => Nat.le_refl _
 | b :: l => by
  simp only [runL]
  split
  ·have := runL_le p l; simp; omega
  ·simp
set_option maxHeartbeats 4000000 in
theorem runC (s : ByteArray) (a : Nat) (f : FuncId) (p : Int → Bool) (hp : ∀ c, FnC (α := Unit) Tryz.prog f [.int .u8 c] [] [] (fun _ => .bool (p c)) (fun _ => []) (fun _ => True)) (ha : a ≤ s.size) (hs : s.size ≤ maxLen) :
  FnC (α := Unit) Tryz.prog 116 [.string s, .int .i64 a, .func (.func f) #[] #[]] [] [] (fun _ => .int .i64 (runL p ((txt s).drop a))) (fun _ => []) (fun _ => True) := by
 unfold maxLen at hs
 refine fn_intro Tryz.func116 Tryz.ntmps116 rfl rfl rfl (fun w0 => ?_)
 try simp only [Sx.ap1, Sx.ap2, Sx.ap3]
 refine rr ?_
 refine w_loop (α := Nat) (fun k => [(0, .string s), (1, .int .i64 a), (2, .func (.func f) #[] #[]), (7, .int .i64 (k : Int))]) (fun _ => []) (fun k => a + k ≤ s.size ∧ runL p ((txt s).drop a) = k + runL p ((txt s).drop (a + k))) (fun k => s.size - (a + k)) 0 ⟨rfl, rfl, rfl, rfl, trivial⟩ rfl ⟨ha, by simp⟩ ?_
 rintro k ⟨hk, hr⟩ K1 hK1
 by_cases hlt : a + k < s.size
 ·obtain ⟨b, hb⟩ := get_some (l := txt s) (i := a + k) (by rw [txt_len]; exact hlt)
  have hb' : s[((a : Int) + (k : Int)).toNat]? = some b := by
   rw [show ((a : Int) + (k : Int)).toNat = a + k by omega]; exact txt_get s _ b hb
  rw [drop_cons hb] at hr
  simp only [runL] at hr
  refine rr ?_
  refine cav [] (hp (b.toNat : Int)) ?_
  intro x hx
  try simp only [Sx.ap1, Sx.ap2, Sx.ap3]
  cases hpb : p (b.toNat : Int) with
  | true =>
   rw [hpb] at hr
   refine rr ?_
   refine w_round hK1 (k + 1) ⟨by omega, ?_⟩ (by show s.size - (a + (k + 1)) < s.size - (a + k); omega) rfl ⟨rfl, rfl, rfl, rfl, trivial⟩
   rw [hr, if_pos rfl, Nat.add_assoc a k 1]; omega
  | false =>
   rw [hpb] at hr
   refine rr ?_
   refine we () [] trivial (hv := ?_)
   simp only [packR, hr]
   simp
 ·skip
  refine rr ?_
  refine we () [] trivial (hv := ?_)
  rw [hr, List.drop_of_length_le (by rw [txt_len]; omega)]
  simp [packR, runL]
end Go.Proofs.YtkolmklfgbimoaaGreatDoor.Sc
namespace Go.Proofs.YtkolmklfgbimoaaGreatDoor.Sc
open Go Go.Sx Go.Sx.Chunk
set_option maxRecDepth 100000
def numL : List UInt8 → Int → Int
 | [], n => n
 | b :: l, n => if 10 * n + ((b.toNat : Int) - 48) > 32767 then -1 else numL l (10 * n + ((b.toNat : Int) - 48))
set_option maxHeartbeats 4000000 in
theorem numberC (s : ByteArray) (hs : s.size ≤ maxLen) (hd : ∀ b ∈ txt s, isDigit (b.toNat : Int) = true) :
  FnC (α := Unit) Tryz.prog 120 [.string s] [] [] (fun _ => .int .i64 (numL (txt s) 0)) (fun _ => []) (fun _ => True) := by
 unfold maxLen at hs
 refine fn_intro Tryz.func120 Tryz.ntmps120 rfl rfl rfl (fun w0 => ?_)
 try simp only [Sx.ap1, Sx.ap2, Sx.ap3]
 refine rr ?_
 refine w_loop (α := Nat × Int) (fun x => [(0, .string s), (3, .int .i64 x.2), (6, .int .i64 s.size), (7, .int .i64 (x.1 : Int))]) (fun _ => []) (fun x => x.1 ≤ s.size ∧ 0 ≤ x.2 ∧ x.2 ≤ 32767 ∧ numL (txt s) 0 = numL ((txt s).drop x.1) x.2) (fun x => s.size - x.1) (0, 0) ⟨rfl, rfl, rfl, rfl, trivial⟩ rfl ⟨Nat.zero_le _, by decide, by decide, by simp⟩ ?_
 rintro ⟨k, v⟩ ⟨hk, h0, h1, hr⟩ K1 hK1
 dsimp only at hk h0 h1 hr ⊢
 by_cases hlt : k < s.size
 ·obtain ⟨b, hb⟩ := get_some (l := txt s) (i := k) (by rw [txt_len]; exact hlt)
  have hb' : s[(k : Int).toNat]? = some b := by
   rw [show (k : Int).toNat = k by omega]; exact txt_get s _ b hb
  have hdig : isDigit (b.toNat : Int) = true := hd b (List.mem_of_getElem? hb)
  simp only [isDigit, Bool.and_eq_true, decide_eq_true_eq] at hdig
  rw [drop_cons hb] at hr
  simp only [numL] at hr
  by_cases hbig : 10 * v + ((b.toNat : Int) - 48) > 32767
  ·rw [if_pos hbig] at hr
   refine rr ?_
   refine we () [] trivial (hv := ?_)
   simp only [packR, hr]
  ·rw [if_neg hbig] at hr
   refine rr ?_
   refine w_round hK1 (k + 1, 10 * v + ((b.toNat : Int) - 48)) ⟨by show k + 1 ≤ s.size; omega, by show 0 ≤ 10 * v + ((b.toNat : Int) - 48); omega, by show 10 * v + ((b.toNat : Int) - 48) ≤ 32767; omega, hr⟩ (by show s.size - (k + 1) < s.size - k; omega) rfl ⟨rfl, rfl, rfl, rfl, trivial⟩
 ·skip
  refine rr ?_
  refine we () [] trivial (hv := ?_)
  rw [hr, List.drop_of_length_le (by rw [txt_len]; omega)]
  simp [packR, numL]
end Go.Proofs.YtkolmklfgbimoaaGreatDoor.Sc
namespace Go.Proofs.YtkolmklfgbimoaaGreatDoor.Sc
open Go Go.Sx Go.Sx.Chunk
set_option maxRecDepth 100000
def two0 : ByteArray := ⟨#[58, 61]⟩
def two1 : ByteArray := ⟨#[60, 62]⟩
def two2 : ByteArray := ⟨#[60, 61]⟩
def two3 : ByteArray := ⟨#[62, 61]⟩
def ones : ByteArray := ⟨#[43, 45, 42, 61, 60, 62, 40, 41, 91, 93, 59, 44, 46, 58]⟩
def signT (r : ByteArray) (c : Int) : List ByteArray → Nat
 | [] => if idxB ones c ≥ 0 then 1 else 0
 | t :: l => if hasP r t then 2 else signT r c l
def twos : List ByteArray := [two0, two1, two2, two3]
def signV (r : ByteArray) (c : Int) : Nat := signT r c twos
set_option maxHeartbeats 4000000 in
theorem signC (s : ByteArray) (a : Nat) (b : UInt8) (hb : (txt s)[a]? = some b) :
  FnC (α := Unit) Tryz.prog 121 [.string s, .int .i64 a] [] [] (fun _ => .int .i64 (signV (s.extract a s.size) (b.toNat : Int))) (fun _ => []) (fun _ => True) := by
 have ha : a < s.size := by rw [← txt_len]; exact (List.getElem?_eq_some_iff.1 hb).1
 have hb' : s[(a : Int).toNat]? = some b := by
  rw [show (a : Int).toNat = a by omega]; exact txt_get s _ b hb
 generalize hv : signV (s.extract a s.size) (b.toNat : Int) = v
 refine fn_intro Tryz.func121 Tryz.ntmps121 rfl rfl rfl (fun w0 => ?_)
 try simp only [Sx.ap1, Sx.ap2, Sx.ap3]
 refine rr ?_
 intro p _
 refine rr ?_
 refine w_loop (α := Nat) (fun k => [(0, .string s), (1, .int .i64 a), (7, .slice (some ⟨p, 0, none⟩) 4 4), (8, .int .i64 4), (9, .int .i64 (k : Int))]) (fun _ => [blk p [.string two0, .string two1, .string two2, .string two3] 9]) (fun k => k ≤ 4 ∧ signT (s.extract a s.size) (b.toNat : Int) (twos.drop k) = v) (fun k => 4 - k) 0 ⟨rfl, rfl, rfl, rfl, rfl, trivial⟩ rfl ⟨by decide, hv⟩ ?_
 rintro k ⟨hk, hr⟩ K1 hK1
 match k, hk, hr, hK1 with
 | 0, hk, hr, hK1 =>
  refine rr ?_
  refine ca [] (preC (s.extract a s.size) two0) ?_
  intro x hx
  try simp only [Sx.ap1, Sx.ap2, Sx.ap3]
  have hst : signT (s.extract a s.size) (b.toNat : Int) (twos.drop 0) = if hasP (s.extract a s.size) two0 then 2 else signT (s.extract a s.size) (b.toNat : Int) (twos.drop 1) := rfl
  rw [hst] at hr
  cases h : hasP (s.extract a s.size) two0 with
  | true =>
   rw [h] at hr
   refine rr ?_
   refine we () [] trivial (hv := ?_)
   rw [← hr]; rfl
  | false =>
   rw [h] at hr
   refine rr ?_
   refine w_round hK1 1 ⟨by omega, ?_⟩ (by show 4 - 1 < 4 - 0; omega) rfl ⟨rfl, rfl, rfl, rfl, rfl, trivial⟩
   exact hr
 | 1, hk, hr, hK1 =>
  refine rr ?_
  refine ca [] (preC (s.extract a s.size) two1) ?_
  intro x hx
  try simp only [Sx.ap1, Sx.ap2, Sx.ap3]
  have hst : signT (s.extract a s.size) (b.toNat : Int) (twos.drop 1) = if hasP (s.extract a s.size) two1 then 2 else signT (s.extract a s.size) (b.toNat : Int) (twos.drop 2) := rfl
  rw [hst] at hr
  cases h : hasP (s.extract a s.size) two1 with
  | true =>
   rw [h] at hr
   refine rr ?_
   refine we () [] trivial (hv := ?_)
   rw [← hr]; rfl
  | false =>
   rw [h] at hr
   refine rr ?_
   refine w_round hK1 2 ⟨by omega, ?_⟩ (by show 4 - 2 < 4 - 1; omega) rfl ⟨rfl, rfl, rfl, rfl, rfl, trivial⟩
   exact hr
 | 2, hk, hr, hK1 =>
  refine rr ?_
  refine ca [] (preC (s.extract a s.size) two2) ?_
  intro x hx
  try simp only [Sx.ap1, Sx.ap2, Sx.ap3]
  have hst : signT (s.extract a s.size) (b.toNat : Int) (twos.drop 2) = if hasP (s.extract a s.size) two2 then 2 else signT (s.extract a s.size) (b.toNat : Int) (twos.drop 3) := rfl
  rw [hst] at hr
  cases h : hasP (s.extract a s.size) two2 with
  | true =>
   rw [h] at hr
   refine rr ?_
   refine we () [] trivial (hv := ?_)
   rw [← hr]; rfl
  | false =>
   rw [h] at hr
   refine rr ?_
   refine w_round hK1 3 ⟨by omega, ?_⟩ (by show 4 - 3 < 4 - 2; omega) rfl ⟨rfl, rfl, rfl, rfl, rfl, trivial⟩
   exact hr
 | 3, hk, hr, hK1 =>
  refine rr ?_
  refine ca [] (preC (s.extract a s.size) two3) ?_
  intro x hx
  try simp only [Sx.ap1, Sx.ap2, Sx.ap3]
  have hst : signT (s.extract a s.size) (b.toNat : Int) (twos.drop 3) = if hasP (s.extract a s.size) two3 then 2 else signT (s.extract a s.size) (b.toNat : Int) (twos.drop 4) := rfl
  rw [hst] at hr
  cases h : hasP (s.extract a s.size) two3 with
  | true =>
   rw [h] at hr
   refine rr ?_
   refine we () [] trivial (hv := ?_)
   rw [← hr]; rfl
  | false =>
   rw [h] at hr
   refine rr ?_
   refine w_round hK1 4 ⟨by omega, ?_⟩ (by show 4 - 4 < 4 - 3; omega) rfl ⟨rfl, rfl, rfl, rfl, rfl, trivial⟩
   exact hr
 | 4, hk, hr, hK1 =>
  refine rr ?_
  refine ca [] (idxC ones (b.toNat : Int)) ?_
  intro x hx
  try simp only [Sx.ap1, Sx.ap2, Sx.ap3]
  have hst : signT (s.extract a s.size) (b.toNat : Int) (twos.drop 4) = if idxB ones (b.toNat : Int) ≥ 0 then 1 else 0 := rfl
  rw [hst] at hr
  by_cases h : idxB ones (b.toNat : Int) ≥ 0
  ·rw [if_pos h] at hr
   refine rr ?_
   refine we () [] trivial (hv := ?_)
   rw [← hr]; rfl
  ·rw [if_neg h] at hr
   refine rr ?_
   refine we () [] trivial (hv := ?_)
   rw [← hr]; rfl
 | k + 5, hk, hr, hK1 => omega
end Go.Proofs.YtkolmklfgbimoaaGreatDoor.Sc
namespace Go.Proofs.YtkolmklfgbimoaaGreatDoor.Sc
open Go Go.Sx Go.Sx.Chunk
set_option maxRecDepth 100000
def bl (l : List UInt8) : List Value := l.map fun b => .int .u8 (b.toNat : Int)
theorem bl_len (l : List UInt8) : (bl l).length = l.length := by simp [bl]
theorem bl_get {l : List UInt8} {i : Nat} {b : UInt8} (h : l[i]? = some b) : (bl l)[i]? = some (.int .u8 (b.toNat : Int)) := by simp [bl, h]
def lowB (b : UInt8) : UInt8 := if 65 ≤ b.toNat ∧ b.toNat ≤ 90 then b + 32 else b
def lowS (s : ByteArray) : ByteArray := ⟨((txt s).map lowB).toArray⟩
theorem lowB_yes {b : UInt8} (h : 65 ≤ b.toNat ∧ b.toNat ≤ 90) : ((lowB b).toNat : Int) = (b.toNat : Int) - 65 + 97 := by
 unfold lowB
 rw [if_pos h]
 have : (b + 32).toNat = (b.toNat + 32) % 256 := by simp [UInt8.toNat_add]
 omega
def lowK (l : List UInt8) (k : Nat) : List UInt8 := (l.take k).map lowB ++ l.drop k
theorem lowK_len (l : List UInt8) (k : Nat) : (lowK l k).length = l.length := by simp [lowK]; omega
theorem lowK_get {l : List UInt8} {k : Nat} {b : UInt8} (h : l[k]? = some b) : (lowK l k)[k]? = some b := by
 have hk : k < l.length := (List.getElem?_eq_some_iff.1 h).1
 unfold lowK
 rw [List.getElem?_append_right (by simp; omega)]
 simp [Nat.min_eq_left (Nat.le_of_lt hk), h]
theorem lowK_succ {l : List UInt8} {k : Nat} {b : UInt8} (h : l[k]? = some b) : lowK l (k + 1) = (lowK l k).set k (lowB b) := by
 obtain ⟨hk, hb⟩ := List.getElem?_eq_some_iff.1 h
 unfold lowK
 have hm : ((l.take k).map lowB).length = k := by simp; omega
 rw [List.take_succ_eq_append_getElem hk, hb, List.set_append_right _ _ (by omega), hm, Nat.sub_self, drop_cons h]
 simp
set_option maxHeartbeats 4000000 in
theorem lowerC (s : ByteArray) (hs : s.size ≤ maxLen) :
  FnC (α := Unit) Tryz.prog 119 [.string s] [] [] (fun _ => .string (lowS s)) (fun _ => []) (fun _ => True) := by
 unfold maxLen at hs
 refine fn_intro Tryz.func119 Tryz.ntmps119 rfl rfl rfl (fun w0 => ?_)
 try simp only [Sx.ap1, Sx.ap2, Sx.ap3]
 refine rr ?_
 rintro ⟨p, c⟩ ⟨hc, hm⟩
 dsimp only at hc hm ⊢
 have hm := hm (by unfold maxLen; omega)
 unfold maxLen at hm
 generalize List.replicate (c - s.size) (Value.int .u8 0) = rest
 refine rr ?_
 refine w_loop (α := Nat) (fun k => [(3, .slice (some ⟨p, 0, none⟩) s.size c), (8, .slice (some ⟨p, 0, none⟩) s.size c), (9, .int .i64 s.size), (10, .int .i64 (k : Int))]) (fun k => [fro p (bl (lowK (txt s) k) ++ rest) 5]) (fun k => k ≤ s.size) (fun k => s.size - k) 0 ⟨rfl, rfl, rfl, rfl, trivial⟩ rfl (Nat.zero_le _) ?_
 rintro k hk K1 hK1
 by_cases hlt : k < s.size
 ·obtain ⟨b, hb⟩ := get_some (l := txt s) (i := k) (by rw [txt_len]; exact hlt)
  have hcell : (bl (lowK (txt s) k) ++ rest)[0 + (k : Int).toNat * 1]? = some (.int .u8 (b.toNat : Int)) := by
   rw [show 0 + (k : Int).toNat * 1 = k by omega, List.getElem?_append_left (by rw [bl_len, lowK_len, txt_len]; exact hlt)]
   exact bl_get (lowK_get hb)
  have hlen : 0 + (k : Int).toNat * 1 < (bl (lowK (txt s) k) ++ rest).length := (List.getElem?_eq_some_iff.1 hcell).1
  have hb255 : b.toNat < 256 := b.toNat_lt
  have hset : ∀ v, v = Value.int .u8 ((lowB b).toNat : Int) → (bl (lowK (txt s) k) ++ rest).set (0 + (k : Int).toNat * 1) v = bl (lowK (txt s) (k + 1)) ++ rest := by
   intro v hv
   rw [hv, show 0 + (k : Int).toNat * 1 = k by omega, List.set_append_left _ _ (by rw [bl_len, lowK_len, txt_len]; exact hlt), lowK_succ hb]
   simp [bl, List.map_set]
  by_cases hcap : 65 ≤ b.toNat ∧ b.toNat ≤ 90
  ·skip
   refine rr ?_
   refine w_round hK1 (k + 1) (by show k + 1 ≤ s.size; omega) (by show s.size - (k + 1) < s.size - k; omega) ?_ ⟨rfl, rfl, rfl, rfl, trivial⟩
   show [fro p _ 5] = [fro p _ 5]
   rw [hset _ (by rw [lowB_yes hcap])]
  ·have hno : lowB b = b := by unfold lowB; rw [if_neg hcap]
   have hsame : bl (lowK (txt s) (k + 1)) ++ rest = bl (lowK (txt s) k) ++ rest := by
    obtain ⟨hi, hv⟩ := List.getElem?_eq_some_iff.1 hcell
    rw [← hset _ (by rw [hno]), ← hv, List.set_getElem_self]
   by_cases h65 : 65 ≤ b.toNat
   ·skip
    refine rr ?_
    refine w_round hK1 (k + 1) (by show k + 1 ≤ s.size; omega) (by show s.size - (k + 1) < s.size - k; omega) (by rw [hsame]) ⟨rfl, rfl, rfl, rfl, trivial⟩
   ·skip
    refine rr ?_
    refine w_round hK1 (k + 1) (by show k + 1 ≤ s.size; omega) (by show s.size - (k + 1) < s.size - k; omega) (by rw [hsame]) ⟨rfl, rfl, rfl, rfl, trivial⟩
 ·obtain rfl : k = s.size := by omega
  have hall : bl (lowK (txt s) s.size) ++ rest = bytC (lowS s) ++ rest := by
   congr 1
   unfold lowK
   rw [List.take_of_length_le (by rw [txt_len]; omega), List.drop_of_length_le (by rw [txt_len]; omega)]
   simp [bl, bytC, lowS]
  have hsz : s.size = (lowS s).size := by
   show s.size = ((txt s).map lowB).toArray.size
   simp [txt_len]
  rw [hall]
  refine rr ?_
  exact we () [] trivial
end Go.Proofs.YtkolmklfgbimoaaGreatDoor.Sc
namespace Go.Proofs.YtkolmklfgbimoaaGreatDoor.Sc
open Go Go.Sx Go.Sx.Chunk
set_option maxRecDepth 100000
def bs (l : List UInt8) : ByteArray := ⟨l.toArray⟩
theorem txt_bs (l : List UInt8) : txt (bs l) = l := by simp [txt, bs]
theorem bs_txt (s : ByteArray) : bs (txt s) = s := by cases s; simp [txt, bs]
theorem bs_size (l : List UInt8) : (bs l).size = l.length := by rw [← txt_len, txt_bs]
theorem bs_inj {a b : List UInt8} : bs a = bs b ↔ a = b := ⟨fun h => by rw [← txt_bs a, h, txt_bs], fun h => by rw [h]⟩
theorem extract_bs (s : ByteArray) (a b : Nat) : s.extract a b = bs (((txt s).drop a).take (b - a)) := by
 rw [← bs_txt (s.extract a b)]
 congr 1
 simp only [txt, ByteArray.data_extract, Array.toList_extract, List.extract_eq_take_drop]
theorem lowS_bs (s : ByteArray) : lowS s = bs ((txt s).map lowB) := rfl
theorem hasP_bs (r q : List UInt8) : hasP (bs r) (bs q) = q.isPrefixOf r := by
 rw [Bool.eq_iff_iff, List.isPrefixOf_iff_prefix, List.prefix_iff_eq_take]
 simp only [hasP, Bool.and_eq_true, decide_eq_true_eq, bs_size, extract_bs, txt_bs, bs_inj, Nat.sub_zero, List.drop_zero]
 constructor
 ·rintro ⟨_, h⟩; exact h.symm
 ·intro h
  refine ⟨?_, h.symm⟩
  rw [h, List.length_take]; omega
def two (a b : UInt8) : Bool := b == 61 && (a == 58 || a == 60 || a == 62) || a == 60 && b == 62
def onesL : List UInt8 := [43, 45, 42, 61, 60, 62, 40, 41, 91, 93, 59, 44, 46, 58]
def signR : List UInt8 → Nat
 | [] => 0
 | [c] => if onesL.contains c then 1 else 0
 | c :: d :: _ => if two c d then 2 else if onesL.contains c then 1 else 0
theorem indexByte_mem (l : List UInt8) (c : UInt8) : (Lib.indexByte l c ≥ 0) ↔ l.contains c = true := by
 induction l with
 | nil => simp [Lib.indexByte]
 | cons b l ih =>
  have hge := Lib.indexByte_ge l c
  simp only [Lib.indexByte, List.contains_cons, Bool.or_eq_true]
  by_cases hb : b = c
  ·subst hb; simp
  ·have h1 : (b == c) = false := by simpa using hb
   have h2 : (c == b) = false := by simpa using fun h : c = b => hb h.symm
   simp only [h1, h2, Bool.false_eq_true, if_false, false_or]
   rw [← ih]
   split <;> rename_i h <;> simp at h <;> omega
theorem idxB_nat (s : ByteArray) (b : UInt8) : idxB s (b.toNat : Int) = Lib.indexByte (txt s) b := by
 unfold idxB txt
 congr 1
 simp
theorem signV_bs (c : UInt8) (r : List UInt8) : signV (bs (c :: r)) (c.toNat : Int) = signR (c :: r) := by
 have h0 : two0 = bs [58, 61] := rfl
 have h1 : two1 = bs [60, 62] := rfl
 have h2 : two2 = bs [60, 61] := rfl
 have h3 : two3 = bs [62, 61] := rfl
 have h4 : ones = bs onesL := rfl
 simp only [signV, twos, signT, h0, h1, h2, h3, h4, hasP_bs, idxB_nat, txt_bs, indexByte_mem]
 cases r with
 | nil => simp [List.isPrefixOf, signR]
 | cons d r =>
  simp only [List.isPrefixOf, Bool.and_true, signR, two]
  have key : ∀ (p1 p2 p3 p4 q : Bool), (p1 || p2 || p3 || p4) = q → (if p1 = true then 2 else if p2 = true then 2 else if p3 = true then 2 else if p4 = true then 2 else if onesL.contains c = true then 1 else 0) = if q = true then 2 else if onesL.contains c = true then 1 else 0 := by
   intro p1 p2 p3 p4 q h; subst h; cases p1 <;> cases p2 <;> cases p3 <;> cases p4 <;> simp
  apply key
  rw [Bool.eq_iff_iff]
  simp only [Bool.or_eq_true, Bool.and_eq_true, beq_iff_eq]
  constructor
  ·rintro (((⟨rfl, rfl⟩ | ⟨rfl, rfl⟩) | ⟨rfl, rfl⟩) | ⟨rfl, rfl⟩) <;> simp
  ·rintro (⟨rfl, (rfl | rfl) | rfl⟩ | ⟨rfl, rfl⟩) <;> simp
structure Tk where
 mk ::
 (kind : Int) (text : List UInt8) (num : Int)
deriving DecidableEq
def Tk.cells (t : Tk) (at' : Int) : List Value := [.int .i64 t.kind, .string (bs t.text), .int .i64 t.num, .int .i64 at']
def tk0 : Tk := ⟨0, [], 0⟩
def isLD (c : Int) : Bool := isLetter c || isDigit c
def tokR : List UInt8 → Tk × Nat × Int
 | [] => (tk0, 0, 2)
 | c :: r =>
  if isLetter (c.toNat : Int) then
   (if runL isLD (c :: r) > 16 then (tk0, 0, 4) else (⟨1, ((c :: r).take (runL isLD (c :: r))).map lowB, 0⟩, runL isLD (c :: r), 0))
  else if isDigit (c.toNat : Int) then
   (if numL ((c :: r).take (runL isDigit (c :: r))) 0 < 0 then (tk0, 0, 3) else (⟨2, [], numL ((c :: r).take (runL isDigit (c :: r))) 0⟩, runL isDigit (c :: r), 0))
  else
   (if signR (c :: r) = 0 then (tk0, 0, 2) else (⟨3, (c :: r).take (signR (c :: r)), 0⟩, signR (c :: r), 0))
def isBlank (c : UInt8) : Bool := c == 32 || c == 9 || c == 10 || c == 13
def scanR : Nat → Nat → List UInt8 → List (Tk × Nat) × Nat × Int
 | _, _, [] => ([], 0, 0)
 | 0, _, _ => ([], 0, 0)
 | f + 1, p, c :: r =>
  if isBlank c then scanR f (p + 1) r
  else if c = 123 then
   (if Lib.indexByte (c :: r) 125 < 0 then ([], p, 2) else scanR f (p + (Lib.indexByte (c :: r) 125).toNat + 1) ((c :: r).drop ((Lib.indexByte (c :: r) 125).toNat + 1)))
  else if (tokR (c :: r)).2.2 ≠ 0 then ([], p, (tokR (c :: r)).2.2)
  else
   match scanR f (p + (tokR (c :: r)).2.1) ((c :: r).drop (tokR (c :: r)).2.1) with
   | (l, q, e) => if e = 0 then (((tokR (c :: r)).1, p) :: l, q, e) else ([], q, e)
def scanL (s : List UInt8) : List (Tk × Nat) × Nat × Int := scanR s.length 0 s
theorem runL_pos {p : Int → Bool} {c : UInt8} {r : List UInt8} (h : p (c.toNat : Int) = true) : 1 ≤ runL p (c :: r) := by simp [runL, h]
theorem signR_le (c : UInt8) (r : List UInt8) : signR (c :: r) ≤ (c :: r).length := by
 cases r with
 | nil => simp only [signR]; split <;> simp
 | cons d r => simp only [signR]; split <;> (try split) <;> simp
theorem tokR_len {c : UInt8} {r : List UInt8} (h : (tokR (c :: r)).2.2 = 0) : 1 ≤ (tokR (c :: r)).2.1 ∧ (tokR (c :: r)).2.1 ≤ (c :: r).length := by
 simp only [tokR] at h ⊢
 split
 ·rename_i h1
  rw [if_pos h1] at h
  split
  ·rename_i h2; rw [if_pos h2] at h; simp at h
  ·exact ⟨runL_pos (by simp [isLD, h1]), runL_le _ _⟩
 ·rename_i h1
  rw [if_neg h1] at h
  split
  ·rename_i h2
   rw [if_pos h2] at h
   split
   ·rename_i h3; rw [if_pos h3] at h; simp at h
   ·exact ⟨runL_pos h2, runL_le _ _⟩
  ·rename_i h2
   rw [if_neg h2] at h
   split
   ·rename_i h3; rw [if_pos h3] at h; simp at h
   ·rename_i h3; exact ⟨by show 1 ≤ signR (c :: r); omega, signR_le _ _⟩
theorem indexByte_lt (l : List UInt8) (c : UInt8) : Lib.indexByte l c < l.length ∧ -1 ≤ Lib.indexByte l c := by
 refine ⟨?_, Lib.indexByte_ge l c⟩
 induction l with
 | nil => simp [Lib.indexByte]
 | cons b l ih =>
  have hge := Lib.indexByte_ge l c
  simp only [Lib.indexByte]
  split
  ·simp
  ·split
   ·simp; omega
   ·simp only [List.length_cons]; omega
theorem scanR_fuel : ∀ (f g p : Nat) (l : List UInt8), l.length ≤ f → l.length ≤ g → scanR f p l = scanR g p l
 | f, g, p, [], _, _ => by simp [scanR]
 | 0, g, p, c :: r, h, _ => by simp at h
 | f + 1, 0, p, c :: r, _, h => by simp at h
 | f + 1, g + 1, p, c :: r, hf, hg => by
  simp only [List.length_cons, Nat.add_le_add_iff_right] at hf hg
  simp only [scanR]
  split
  ·exact scanR_fuel f g (p + 1) r hf hg
  ·split
   ·split
    ·rfl
    ·exact scanR_fuel f g _ _ (by simp; omega) (by simp; omega)
   ·split
    ·rfl
    ·rename_i h
     have := tokR_len (c := c) (r := r) (by simpa using h)
     rw [scanR_fuel f g _ ((c :: r).drop (tokR (c :: r)).2.1) (by simp; omega) (by simp; omega)]
end Go.Proofs.YtkolmklfgbimoaaGreatDoor.Sc
namespace Go.Proofs.YtkolmklfgbimoaaGreatDoor.Sc
open Go Go.Sx Go.Sx.Chunk
set_option maxRecDepth 100000
def tokV (a : Nat) (r : List UInt8) : Value := .tuple #[.agg (Tk.cells (tokR r).1 (if (tokR r).2.2 = 0 then (a : Int) else 0)).toArray, .int .i64 (tokR r).2.1, .int .i64 (tokR r).2.2]
theorem take_drop (s : ByteArray) (a k : Nat) : s.extract a (a + k) = bs (((txt s).drop a).take k) := by
 rw [extract_bs, Nat.add_sub_cancel_left]
theorem rest_eq (s : ByteArray) (a : Nat) : s.extract a s.size = bs ((txt s).drop a) := by
 rw [extract_bs, List.take_of_length_le]
 rw [List.length_drop, txt_len]; exact Nat.le_refl _
theorem runL_all (p : Int → Bool) : ∀ (l : List UInt8) (b : UInt8), b ∈ l.take (runL p l) → p (b.toNat : Int) = true
 | [], b, h => by simp at h
 | c :: l, b, h => by
  simp only [runL] at h
  split at h
  ·rename_i hc
   simp only [List.take_succ_cons, List.mem_cons] at h
   rcases h with rfl | h
   ·exact hc
   ·exact runL_all p l b h
  ·simp at h
set_option maxHeartbeats 4000000 in
theorem tokenC (s : ByteArray) (a : Nat) (b : UInt8) (hs : s.size ≤ maxLen) (hb : (txt s)[a]? = some b) :
  FnC (α := Unit) Tryz.prog 59 [.string s, .int .i64 a] [] [] (fun _ => tokV a ((txt s).drop a)) (fun _ => []) (fun _ => True) := by
 have ha : a < s.size := by rw [← txt_len]; exact (List.getElem?_eq_some_iff.1 hb).1
 have hb' : s[(a : Int).toNat]? = some b := by
  rw [show (a : Int).toNat = a by omega]; exact txt_get s _ b hb
 have hsz := hs
 unfold maxLen at hsz
 have hdr : (txt s).drop a = b :: (txt s).drop (a + 1) := drop_cons hb
 have hlen : ((txt s).drop a).length = s.size - a := by rw [List.length_drop, txt_len]
 refine fn_intro Tryz.func59 Tryz.ntmps59 rfl rfl rfl (fun w0 => ?_)
 try simp only [Sx.ap1, Sx.ap2, Sx.ap3]
 generalize hv : tokV a ((txt s).drop a) = v
 unfold tokV at hv
 have hsv : signV (s.extract a s.size) (b.toNat : Int) = signR ((txt s).drop a) := by rw [rest_eq, hdr, signV_bs]
 have htk : tokR ((txt s).drop a) = if isLetter (b.toNat : Int) then
   (if runL isLD ((txt s).drop a) > 16 then (tk0, 0, 4) else (⟨1, (((txt s).drop a).take (runL isLD ((txt s).drop a))).map lowB, 0⟩, runL isLD ((txt s).drop a), 0))
  else if isDigit (b.toNat : Int) then
   (if numL (((txt s).drop a).take (runL isDigit ((txt s).drop a))) 0 < 0 then (tk0, 0, 3) else (⟨2, [], numL (((txt s).drop a).take (runL isDigit ((txt s).drop a))) 0⟩, runL isDigit ((txt s).drop a), 0))
  else
   (if signR ((txt s).drop a) = 0 then (tk0, 0, 2) else (⟨3, ((txt s).drop a).take (signR ((txt s).drop a)), 0⟩, signR ((txt s).drop a), 0)) := by
  rw [hdr]; rfl
 have hemp : ByteArray.empty = bs [] := rfl
 refine rr ?_
 intro p _
 refine rr ?_
 refine ca [] (letterC (b.toNat : Int)) ?_
 intro x hx
 try simp only [Sx.ap1, Sx.ap2, Sx.ap3]
 cases hl : isLetter (b.toNat : Int) with
 | true =>
  rw [hl, if_pos rfl] at htk
  refine rr ?_
  refine ca [] (runC s a 117 isLD ldC (by omega) hs) ?_
  intro x hx
  try simp only [Sx.ap1, Sx.ap2, Sx.ap3]
  have hr := runL_le isLD ((txt s).drop a)
  rw [hlen] at hr
  generalize hk : runL isLD ((txt s).drop a) = k at hr htk
  by_cases hk16 : k > 16
  ·rw [if_pos hk16] at htk
   rw [htk] at hv
   refine rr ?_
   refine we () [] trivial (hv := ?_)
   rw [← hv]; rfl
  ·rw [if_neg hk16] at htk
   rw [htk] at hv
   refine rr ?_
   have he : s.extract ((a : Int)).toNat ((a : Int) + (k : Int)).toNat = bs (((txt s).drop a).take k) := by
    rw [show ((a : Int)).toNat = a by omega, show ((a : Int) + (k : Int)).toNat = a + k by omega, take_drop]
   refine ca [] (lowerC (s.extract ((a : Int)).toNat ((a : Int) + (k : Int)).toNat) (by rw [he, bs_size]; unfold maxLen; simp; omega)) ?_
   intro x hx
   try simp only [Sx.ap1, Sx.ap2, Sx.ap3]
   refine rr ?_
   refine we () [] trivial (hv := ?_)
   rw [← hv, he, lowS_bs, txt_bs]; rfl
 | false =>
  rw [hl, if_neg (by simp)] at htk
  refine rr ?_
  refine ca [] (digitC (b.toNat : Int)) ?_
  intro x hx
  try simp only [Sx.ap1, Sx.ap2, Sx.ap3]
  cases hl2 : isDigit (b.toNat : Int) with
  | true =>
   rw [hl2, if_pos rfl] at htk
   refine rr ?_
   refine ca [] (runC s a 118 isDigit digitC (by omega) hs) ?_
   intro x hx
   try simp only [Sx.ap1, Sx.ap2, Sx.ap3]
   have hr := runL_le isDigit ((txt s).drop a)
   have hall := runL_all isDigit ((txt s).drop a)
   rw [hlen] at hr
   generalize hk : runL isDigit ((txt s).drop a) = k at hr htk hall
   refine rr ?_
   have he : s.extract ((a : Int)).toNat ((a : Int) + (k : Int)).toNat = bs (((txt s).drop a).take k) := by
    rw [show ((a : Int)).toNat = a by omega, show ((a : Int) + (k : Int)).toNat = a + k by omega, take_drop]
   refine ca [] (numberC (s.extract ((a : Int)).toNat ((a : Int) + (k : Int)).toNat) (by rw [he, bs_size]; unfold maxLen; simp; omega) (by rw [he, txt_bs]; exact hall)) ?_
   intro x hx
   try simp only [Sx.ap1, Sx.ap2, Sx.ap3]
   simp only [he, txt_bs]
   generalize numL (((txt s).drop a).take k) 0 = nn at htk
   by_cases hneg : nn < 0
   ·rw [if_pos hneg] at htk
    rw [htk] at hv
    refine rr ?_
    refine we () [] trivial (hv := ?_)
    rw [← hv]; rfl
   ·rw [if_neg hneg] at htk
    rw [htk] at hv
    refine rr ?_
    refine we () [] trivial (hv := ?_)
    rw [← hv]; rfl
  | false =>
   rw [hl2, if_neg (by simp)] at htk
   refine rr ?_
   refine ca [] (signC s a b hb) ?_
   intro x hx
   try simp only [Sx.ap1, Sx.ap2, Sx.ap3]
   rw [hsv]
   have hr : signR ((txt s).drop a) ≤ s.size - a := by rw [← hlen, hdr]; exact signR_le _ _
   generalize signR ((txt s).drop a) = k at htk hr
   by_cases h0 : k = 0
   ·rw [if_pos h0] at htk
    rw [htk] at hv
    subst h0
    refine rr ?_
    refine we () [] trivial (hv := ?_)
    rw [← hv]; rfl
   ·rw [if_neg h0] at htk
    rw [htk] at hv
    have hb0 : ((k : Int) == 0) = false := by simp; omega
    refine rr ?_
    rw [hb0]
    refine rr ?_
    have he : s.extract ((a : Int)).toNat ((a : Int) + (k : Int)).toNat = bs (((txt s).drop a).take k) := by
     rw [show ((a : Int)).toNat = a by omega, show ((a : Int) + (k : Int)).toNat = a + k by omega, take_drop]
    refine we () [] trivial (hv := ?_)
    rw [← hv]
    simp only [packR, Option.getD, he]
    rfl
end Go.Proofs.YtkolmklfgbimoaaGreatDoor.Sc
namespace Go.Proofs.YtkolmklfgbimoaaGreatDoor.Sc
open Go Go.Sx Go.Sx.Chunk
set_option maxRecDepth 100000
abbrev ScanRes := List (Tk × Nat) × Nat × Int
def scanD (p : Nat) (l : List UInt8) : ScanRes := scanR l.length p l
def consT (t : Tk × Nat) (r : ScanRes) : ScanRes := if r.2.2 = 0 then (t :: r.1, r.2) else ([], r.2)
def comb (l0 : List (Tk × Nat)) (r : ScanRes) : ScanRes := if r.2.2 = 0 then (l0 ++ r.1, r.2) else ([], r.2)
theorem scanD_nil (p : Nat) : scanD p [] = ([], 0, 0) := rfl
theorem scanD_cons (p : Nat) (c : UInt8) (r : List UInt8) : scanD p (c :: r) =
  if isBlank c then scanD (p + 1) r
  else if c = 123 then
   (if Lib.indexByte (c :: r) 125 < 0 then ([], p, 2) else scanD (p + (Lib.indexByte (c :: r) 125).toNat + 1) ((c :: r).drop ((Lib.indexByte (c :: r) 125).toNat + 1)))
  else if (tokR (c :: r)).2.2 ≠ 0 then ([], p, (tokR (c :: r)).2.2)
  else consT ((tokR (c :: r)).1, p) (scanD (p + (tokR (c :: r)).2.1) ((c :: r).drop (tokR (c :: r)).2.1)) := by
 unfold scanD
 simp only [List.length_cons, scanR]
 split
 ·rfl
 ·split
  ·split
   ·rfl
   ·exact scanR_fuel _ _ _ _ (by simp) (Nat.le_refl _)
  ·split
   ·rfl
   ·rename_i h
    have hl := tokR_len (c := c) (r := r) (by simpa using h)
    rw [scanR_fuel r.length ((c :: r).drop (tokR (c :: r)).2.1).length _ _ (by simp; omega) (Nat.le_refl _)]
    rfl
theorem comb_nil (r : ScanRes) (h : r.2.2 = 0 ∨ r.1 = []) : comb [] r = r := by
 unfold comb
 split
 ·rfl
 ·rename_i h2
  rcases h with h | h
  ·exact absurd h h2
  ·rw [← h]
theorem comb_cons (l0 : List (Tk × Nat)) (t : Tk × Nat) (r : ScanRes) : comb l0 (consT t r) = comb (l0 ++ [t]) r := by
 unfold comb consT
 by_cases h : r.2.2 = 0 <;> simp [h]
theorem scanD_res : ∀ (n p : Nat) (l : List UInt8), l.length ≤ n → (scanD p l).2.2 = 0 ∨ (scanD p l).1 = []
 | n, p, [], _ => .inl rfl
 | 0, p, c :: r, h => by simp at h
 | n + 1, p, c :: r, h => by
  rw [scanD_cons]
  simp only [List.length_cons, Nat.add_le_add_iff_right] at h
  split
  ·exact scanD_res n _ _ h
  ·split
   ·split
    ·exact .inr rfl
    ·exact scanD_res n _ _ (by simp; omega)
   ·split
    ·exact .inr rfl
    ·unfold consT
     split
     ·rename_i h2; exact .inl h2
     ·exact .inr rfl
def tokC (l : List (Tk × Nat)) : List Value := l.flatMap fun t => t.1.cells (t.2 : Int)
theorem tokC_app (l m : List (Tk × Nat)) : tokC (l ++ m) = tokC l ++ tokC m := by simp [tokC]
theorem tokC_one (t : Tk) (p : Nat) : tokC [(t, p)] = t.cells (p : Int) := by simp [tokC]
def blanks : ByteArray := ⟨#[32, 9, 10, 13]⟩
theorem blank_iff (b : UInt8) : decide (idxB blanks (b.toNat : Int) ≥ 0) = isBlank b := by
 rw [idxB_nat, Bool.eq_iff_iff, decide_eq_true_eq, indexByte_mem, show txt blanks = [32, 9, 10, 13] from rfl]
 simp [isBlank, Bool.or_assoc]
def scanV (r : ScanRes) (x : Option Addr × Nat) : Value := .tuple #[.slice x.1 r.1.length x.2, .int .i64 (r.2.1 : Int), .int .i64 r.2.2]
set_option maxHeartbeats 4000000 in
theorem scanC (s : ByteArray) (hs : s.size ≤ 1000000) :
  FnC Tryz.prog 27 [.string s] [] [] (fun (x : Option Addr × Nat) => scanV (scanD 0 (txt s)) x) (fun x => [row x.1 x.2 139 4 (scanD 0 (txt s)).1.length (tokC (scanD 0 (txt s)).1)]) (fun _ => True) := by
 have hmax : s.size ≤ maxLen := by unfold maxLen; omega
 refine fn_intro Tryz.func27 Tryz.ntmps27 rfl rfl rfl (fun w0 => ?_)
 try simp only [Sx.ap1, Sx.ap2, Sx.ap3]
 refine rr ?_
 refine w_turn (fun w hw => hw.row_nil 139 4) ?_
 generalize hres : scanD 0 (txt s) = res
 refine w_loop (α := List (Tk × Nat) × Nat × Option Addr × Nat) (fun x => [(0, .string s), (5, .slice x.2.2.1 x.1.length x.2.2.2), (6, .int .i64 (x.2.1 : Int))]) (fun x => [row x.2.2.1 x.2.2.2 139 4 x.1.length (tokC x.1)])
  (fun x => x.2.1 ≤ s.size ∧ x.1.length ≤ x.2.1 ∧ comb x.1 (scanD x.2.1 ((txt s).drop x.2.1)) = res) (fun x => s.size - x.2.1) ([], 0, none, 0) ⟨rfl, rfl, rfl, trivial⟩ rfl ⟨Nat.zero_le _, Nat.le_refl _, by rw [← hres]; exact comb_nil _ (scanD_res _ _ _ (Nat.le_refl _))⟩ ?_
 rintro ⟨l0, p, ao, cap⟩ ⟨hp, hl0, hr⟩ K1 hK1
 dsimp only at hp hl0 hr ⊢
 by_cases hlt : p < s.size
 ·obtain ⟨b, hb⟩ := get_some (l := txt s) (i := p) (by rw [txt_len]; exact hlt)
  have hb' : s[(p : Int).toNat]? = some b := by
   rw [show (p : Int).toNat = p by omega]; exact txt_get s _ b hb
  have hdr : (txt s).drop p = b :: (txt s).drop (p + 1) := drop_cons hb
  have hlen : ((txt s).drop p).length = s.size - p := by rw [List.length_drop, txt_len]
  have hidx := indexByte_lt ((txt s).drop p) 125
  rw [hlen] at hidx
  rw [hdr, scanD_cons, ← hdr] at hr
  refine rr ?_
  refine ca [] (idxC blanks (b.toNat : Int)) ?_
  intro x hx
  try simp only [Sx.ap1, Sx.ap2, Sx.ap3]
  refine rr ?_
  rw [blank_iff]
  cases hbl : isBlank b with
  | true =>
   rw [hbl, if_pos rfl] at hr
   refine rr ?_
   refine w_round hK1 (l0, p + 1, ao, cap) ⟨by show p + 1 ≤ s.size; omega, by show l0.length ≤ p + 1; omega, hr⟩ (by show s.size - (p + 1) < s.size - p; omega) rfl ⟨rfl, rfl, rfl, trivial⟩
  | false =>
   rw [hbl, if_neg (by simp)] at hr
   by_cases h123 : b = 123
   ·subst h123
    rw [if_pos rfl] at hr
    refine rr ?_
    refine ca [] (idxC (s.extract (p : Int).toNat (s.size : Int).toNat) 125) ?_
    intro x hx
    try simp only [Sx.ap1, Sx.ap2, Sx.ap3]
    have he : idxB (s.extract (p : Int).toNat (s.size : Int).toNat) 125 = Lib.indexByte ((txt s).drop p) 125 := by
     rw [show (p : Int).toNat = p by omega, show (s.size : Int).toNat = s.size by omega, rest_eq]
     show Lib.indexByte _ _ = _
     congr 1
    rw [he]
    by_cases hneg : Lib.indexByte ((txt s).drop p) 125 < 0
    ·rw [if_pos hneg] at hr
     refine rr ?_
     refine w_turn (fun w hw => hw.row_nil 139 4) ?_
     subst hr
     exact we (none, 0) [0] trivial
    ·rw [if_neg hneg] at hr
     obtain ⟨k, hk⟩ : ∃ k : Nat, Lib.indexByte ((txt s).drop p) 125 = k := ⟨(Lib.indexByte ((txt s).drop p) 125).toNat, by omega⟩
     rw [hk] at hr hidx ⊢
     simp only [Int.toNat_natCast] at hr
     rw [List.drop_drop] at hr
     refine rr ?_
     refine w_round hK1 (l0, p + k + 1, ao, cap) ⟨by show p + k + 1 ≤ s.size; omega, by show l0.length ≤ p + k + 1; omega, hr⟩ (by show s.size - (p + k + 1) < s.size - p; omega) rfl ⟨rfl, rfl, ?_, trivial⟩
     show some (Value.int IntKind.i64 ((p : Int) + ((k : Int) + 1))) = _
     rw [show ((p : Int) + ((k : Int) + 1)) = ((p + k + 1 : Nat) : Int) by omega]
   ·rw [if_neg h123] at hr
    have hne : ((b.toNat : Int) == 123) = false := by
     simp only [beq_eq_false_iff_ne, ne_eq]
     intro h
     apply h123
     apply UInt8.toNat_inj.1
     show b.toNat = 123
     omega
    refine rr ?_
    rw [hne]
    refine rr ?_
    refine ca [] (tokenC s p b hmax hb) ?_
    intro x hx
    try simp only [Sx.ap1, Sx.ap2, Sx.ap3]
    have htl : (tokR ((txt s).drop p)).2.2 = 0 → 1 ≤ (tokR ((txt s).drop p)).2.1 ∧ (tokR ((txt s).drop p)).2.1 ≤ s.size - p := by
     rw [← hlen, hdr]; exact tokR_len
    unfold tokV
    generalize tokR ((txt s).drop p) = tk at hr htl
    obtain ⟨t, m, e⟩ := tk
    dsimp only at hr htl ⊢
    by_cases he : e = 0
    ·subst he
     obtain ⟨h1, h2⟩ := htl rfl
     rw [if_neg (by simp), comb_cons, List.drop_drop] at hr
     refine rr ?_
     rw [if_pos rfl]
     intro c _
     refine rr ?_
     intro d _
     refine rr ?_
     rintro ⟨a', c'⟩ ⟨hc', _⟩
     dsimp only at hc' ⊢
     refine rr ?_
     refine w_sub [0] rfl ?_
     refine w_round hK1 (l0 ++ [(t, p)], p + m, a', c') ⟨by show p + m ≤ s.size; omega, by simp; omega, hr⟩ (by show s.size - (p + m) < s.size - p; omega) ?_ ⟨rfl, ?_, rfl, trivial⟩
     ·rw [tokC_app, tokC_one, List.length_append]; rfl
     ·rw [List.length_append]; rfl
    ·have hne0 : (e != 0) = true := by simp [he]
     rw [if_pos he] at hr
     refine rr ?_
     intro c _
     refine rr ?_
     rw [hne0]
     refine rr ?_
     refine w_turn (fun w hw => hw.row_nil 139 4) ?_
     have hr2 : res = ([], p, e) := by rw [← hr]; unfold comb; rw [if_neg he]
     subst hr2
     exact we (none, 0) [0] trivial
 ·obtain rfl : p = s.size := by omega
  have hr2 : res = (l0, 0, 0) := by rw [← hr, List.drop_of_length_le (by rw [txt_len]; exact Nat.le_refl _)]; unfold comb; simp [scanD_nil]
  subst hr2
  refine rr ?_
  exact we (ao, cap) [0] trivial
end Go.Proofs.YtkolmklfgbimoaaGreatDoor.Sc
namespace Go.Proofs.YtkolmklfgbimoaaGreatDoor.Cm
open Go
set_option maxRecDepth 100000
structure Th where
 mk ::
 (kind pl size : Int) (takes : Bool)
deriving DecidableEq
def th0 : Th := ⟨0, 0, 0, false⟩
structure CS where
 mk ::
 (toks : List (Sc.Tk × Nat)) (en : Int) (code : List In) (pats : List Pa) (taken : Nat) (ents : List (ByteArray × Th)) (begs : List Nat) (name : ByteArray) (data : Int) (exps : List Sy) (imps : List ByteArray) (e bad : Int) (fac nest : Nat)
deriving DecidableEq
def wordsL : List (List UInt8) := [[112, 114, 111, 103, 114, 97, 109], [109, 111, 100, 117, 108, 101], [118, 97, 114], [101, 120, 116, 101, 114, 110, 97, 108], [112, 114, 111, 99, 101, 100, 117, 114, 101], [98, 101, 103, 105, 110], [101, 110, 100], [105, 102], [116, 104, 101, 110], [101, 108, 115, 101], [119, 104, 105, 108, 101], [100, 111], [119, 114, 105, 116, 101], [114, 101, 97, 100], [110, 111, 116], [97, 110, 100], [111, 114], [100, 105, 118], [109, 111, 100]]
def isWord (l : List UInt8) : Bool := wordsL.contains l
def mStop (e pl : Int) (s : CS) : CS := { s with e := if s.e = 0 then e else s.e, bad := if s.e = 0 then pl else s.bad, toks := [] }
def mHere (s : CS) : Int := match s.toks with
 | [] => s.en
 | t :: _ => (t.2 : Int)
def mSees (w : List UInt8) (s : CS) : Bool := match s.toks with
 | [] => false
 | t :: _ => decide (t.1.text = w) && (decide (t.1.kind = 3) || (decide (t.1.kind = 1) && isWord w))
def mTail (s : CS) : CS := { s with toks := s.toks.tail }
def mHas (w : List UInt8) (s : CS) : CS := if mSees w s then mTail s else s
def mMust (w : List UInt8) (s : CS) : CS := if mSees w s then mTail s else mStop 2 (mHere s) s
def mNamed (s : CS) : Bool := match s.toks with
 | [] => false
 | t :: _ => decide (t.1.kind = 1) && !isWord t.1.text
def mText (s : CS) : List UInt8 := match s.toks with
 | [] => []
 | t :: _ => t.1.text
def mName (s : CS) : List UInt8 × CS := if mNamed s then (mText s, mTail s) else ([], mStop 2 (mHere s) s)
def mIsNum (s : CS) : Bool := match s.toks with
 | [] => false
 | t :: _ => decide (t.1.kind = 2)
def mNum (s : CS) : Int := match s.toks with
 | [] => 0
 | t :: _ => t.1.num
def mNumber (s : CS) : Int × CS := if mIsNum s then (mNum s, mTail s) else (0, mStop 2 (mHere s) s)
def decD (bs : List Nat) (i : Nat) : Nat → Nat
 | 0 => 0
 | d + 1 => if i < bs.getD d 0 then decD bs i d else d + 1
def findG (es : List (ByteArray × Th)) (bs : List Nat) (name : ByteArray) : Nat → Nat → Th × Nat × Bool
 | 0, _ => (th0, 0, false)
 | i + 1, d => if (es.getD i (.empty, th0)).1 = name then ((es.getD i (.empty, th0)).2, decD bs i d, true) else findG es bs name i (decD bs i d)
def mFind (name : List UInt8) (s : CS) : Th × Nat × Bool := findG s.ents s.begs (Sc.bs name) s.ents.length s.begs.length
def mDefOk (name : List UInt8) (s : CS) : Bool := s.begs.length != 0 && !((mFind name s).2.2 && decide ((mFind name s).2.1 = s.begs.length))
def mDef (name : List UInt8) (t : Th) (s : CS) : CS := if mDefOk name s then { s with ents := s.ents ++ [(Sc.bs name, t)] } else s
def mOpen (s : CS) : CS := { s with begs := s.begs ++ [s.ents.length] }
def mClose (s : CS) : CS := if s.begs.length = 0 then s else { s with ents := s.ents.take (s.begs.getLastD 0), begs := s.begs.dropLast }
def mOwn (s : CS) : List (ByteArray × Th) := if s.begs.length = 0 then [] else s.ents.drop (s.begs.getLastD 0)
def mDefine (name : List UInt8) (pl : Int) (t : Th) (s : CS) : CS := if s.e = 0 then (if mDefOk name s then mDef name t s else mStop 6 pl s) else s
def mLook (name : List UInt8) (pl : Int) (s : CS) : Th × CS := if (mFind name s).2.2 then ((mFind name s).1, s) else ((mFind name s).1, mStop 5 pl s)
def mPut (i : In) (s : CS) : CS := { s with code := s.code ++ [i] }
def mMark (i : In) (kind n : Int) (s : CS) : CS := mPut i { s with pats := s.pats ++ [⟨(s.code.length : Int), kind, n⟩] }
def isFar (i : In) : Bool := decide (i.op = 17 ∨ i.op = 18)
def mJump (i : In) (s : CS) : CS := if isFar i then mMark i 0 0 s else mPut i s
def aimI (i : In) (pl tgt : Int) : Option In := if isFar i then some { i with imm := tgt } else if i.op = 15 ∨ i.op = 16 then some { i with imm := tgt - pl - 1 } else none
def aimL (l : List In) (pl tgt : Int) : Option (List In) := if pl < 0 ∨ (l.length : Int) ≤ pl then none else match aimI (l.getD pl.toNat ⟨0, 0, 0, 0, 0⟩) pl tgt with
 | some j => some (l.set pl.toNat j)
 | none => none
def mAim (pl tgt : Int) (s : CS) : CS := match aimL s.code pl tgt with
 | some l => { s with code := l }
 | none => s
def mLand (pl : Int) (s : CS) : CS := mAim pl (s.code.length : Int) s
def mBack (i : In) (tgt : Int) (s : CS) : CS := mAim (s.code.length : Int) tgt (mJump i s)
def mTake (s : CS) : CS := if s.taken = 8 then s else { s with taken := s.taken + 1 }
def mGive (s : CS) : CS := { s with taken := s.taken - 1 }
def mReg (pl : Int) (s : CS) : Int × CS := if s.taken = 8 then (8, mStop 8 pl s) else (8 + (s.taken : Int), mTake s)
def mInner (pl : Int) (f : CS → Int × CS) (s : CS) : Int × CS :=
 if s.fac + 1 > 16 then (8, mStop 8 pl { s with fac := s.fac + 1 })
 else ((f { s with fac := s.fac + 1 }).1, { (f { s with fac := s.fac + 1 }).2 with fac := (f { s with fac := s.fac + 1 }).2.fac - 1 })
def mLoad (t : Th) (r : Int) (s : CS) : CS := if t.kind = 2 then mPut ⟨12, r, 30, 0, t.pl⟩ s else mMark ⟨12, r, 0, 0, t.pl⟩ 1 0 s
def mStore (t : Th) (r : Int) (s : CS) : CS := if t.kind = 2 then mPut ⟨13, r, 30, 0, t.pl⟩ s else mMark ⟨13, r, 0, 0, t.pl⟩ 1 0 s
def mConst (r n : Int) (s : CS) : CS := mPut ⟨10, r, 0, 0, n⟩ s
def mIndex (ex : CS → Int × CS) (t : Th) (s : CS) : Int × CS :=
 let s1 := mMust [91] s
 if s1.e ≠ 0 then (8, s1) else
 let r := mInner (mHere s) ex s1
 (r.1, mPut ⟨14, r.1, 0, 0, t.size⟩ (mMust [93] r.2))
def mValue (ex : CS → Int × CS) (s : CS) : Int × CS :=
 let pl := mHere s
 let a := mName s
 if a.2.e ≠ 0 then (8, a.2) else
 let b := mLook a.1 pl a.2
 if b.2.e ≠ 0 then (8, b.2)
 else if b.1.kind = 3 ∨ b.1.kind = 4 then (8, mStop 7 pl b.2)
 else if b.1.kind = 1 then
  let r := mIndex ex b.1 b.2
  (r.1, mMark ⟨12, r.1, r.1, 0, b.1.pl⟩ 1 0 r.2)
 else
  let r := mReg pl b.2
  (r.1, mLoad b.1 r.1 r.2)
def mFactorB (ex fa : CS → Int × CS) (s : CS) : Int × CS :=
 let pl := mHere s
 if mSees [40] s then
  let r := mInner pl ex (mTail s)
  (r.1, mMust [41] r.2)
 else if mSees [45] s then
  let r := mInner pl fa (mTail s)
  (r.1, mPut ⟨2, r.1, 0, r.1, 0⟩ r.2)
 else if mSees [110, 111, 116] s then
  let r := mInner pl fa (mTail s)
  (r.1, mPut ⟨9, r.1, r.1, 0, 0⟩ r.2)
 else if mNamed s then mValue ex s
 else
  let a := mNumber s
  if a.2.e ≠ 0 then (8, a.2) else
  let r := mReg pl a.2
  (r.1, mConst r.1 a.1 r.2)
def opsOf (ops : List (List UInt8 × Int)) (w : List UInt8) : Option Int := match ops with
 | [] => none
 | (a, n) :: r => if a = w then some n else opsOf r w
def mJoin (part : CS → Int × CS) (ops : List (List UInt8 × Int)) (n : Int) : Nat → CS → CS
 | 0, s => s
 | m + 1, s => if s.e = 0 ∧ s.toks ≠ [] then (match opsOf ops (mText s) with
  | none => s
  | some op => if mSees (mText s) s then mJoin part ops n m (mGive (mPut ⟨op, n, n, (part (mTail s)).1, 0⟩ (part (mTail s)).2)) else s) else s
def mJoined (part : CS → Int × CS) (ops : List (List UInt8 × Int)) (s : CS) : Int × CS := ((part s).1, mJoin part ops (part s).1 (part s).2.toks.length (part s).2)
def termO : List (List UInt8 × Int) := [([42], 3), ([100, 105, 118], 4), ([109, 111, 100], 5), ([97, 110, 100], 6)]
def sumO : List (List UInt8 × Int) := [([43], 1), ([45], 2), ([111, 114], 7)]
def mTerm (fa : CS → Int × CS) : CS → Int × CS := mJoined fa termO
def mSum (fa : CS → Int × CS) : CS → Int × CS := mJoined (mTerm fa) sumO
def cmpL : List (List UInt8) := [[61], [60, 62], [60, 61], [62, 61], [60], [62]]
def mCmp (fa : CS → Int × CS) (n : Int) (w : List UInt8) (s : CS) : CS :=
 let m := (mSum fa (mTail s)).1
 let s1 := (mSum fa (mTail s)).2
 let op : Int := if w = [61] ∨ w = [60, 62] then 9 else 8
 let s2 := if w = [62] ∨ w = [60, 61] then mPut ⟨op, n, m, n, 0⟩ s1 else mPut ⟨op, n, n, m, 0⟩ s1
 mGive (if w = [60, 62] ∨ w = [60, 61] ∨ w = [62, 61] then mPut ⟨9, n, n, 0, 0⟩ s2 else s2)
def mCmps (fa : CS → Int × CS) (n : Int) : List (List UInt8) → CS → CS
 | [], s => s
 | w :: l, s => if s.e = 0 ∧ mSees w s then mCmp fa n w s else mCmps fa n l s
def mExprB (fa : CS → Int × CS) (s : CS) : Int × CS := ((mSum fa s).1, mCmps fa (mSum fa s).1 cmpL (mSum fa s).2)
def mFactor : Nat → CS → Int × CS
 | 0, s => (8, s)
 | n + 1, s => mFactorB (mExprB (mFactor n)) (mFactor n) s
def mExpr (N : Nat) : CS → Int × CS := mExprB (mFactor N)
def mAssign (N : Nat) (t : Th) (s : CS) : CS :=
 if t.kind = 1 then
  let a := mIndex (mExpr N) t s
  let r := mExpr N (mMust [58, 61] a.2)
  mGive (mGive (mMark ⟨13, r.1, a.1, 0, t.pl⟩ 1 0 r.2))
 else
  let r := mExpr N (mMust [58, 61] s)
  mGive (mStore t r.1 r.2)
def mArg (N : Nat) (t : Th) (s : CS) : CS :=
 if t.takes then
  let r := mExpr N (mMust [40] s)
  mGive (mPut ⟨1, 4, r.1, 0, 0⟩ (mMust [41] r.2))
 else s
def mCall (N : Nat) (t : Th) (s : CS) : CS :=
 if t.kind = 4 then mMark ⟨18, 0, 0, 0, 0⟩ 2 t.pl (mArg N t s) else mBack ⟨18, 0, 0, 0, 0⟩ t.pl (mArg N t s)
def mBegun (N : Nat) (s : CS) : CS :=
 let a := mName s
 let b := mLook a.1 (mHere s) a.2
 if b.2.e ≠ 0 then b.2 else if b.1.kind = 3 ∨ b.1.kind = 4 then mCall N b.1 b.2 else mAssign N b.1 b.2
def mWithin (pl : Int) (f : CS → CS) (s : CS) : CS :=
 if s.nest + 1 > 16 then mStop 8 pl { s with nest := s.nest + 1 }
 else { f { s with nest := s.nest + 1 } with nest := (f { s with nest := s.nest + 1 }).nest - 1 }
def mChoice (N : Nat) (f : CS → CS) (pl : Int) (s : CS) : CS :=
 let r := mExpr N s
 let s1 := mMust [116, 104, 101, 110] r.2
 let over := (s1.code.length : Int)
 let s2 := mWithin pl f (mGive (mJump ⟨15, r.1, 0, 0, 0⟩ s1))
 if mSees [101, 108, 115, 101] s2 then
  let s3 := mTail s2
  let end_ := (s3.code.length : Int)
  let s4 := mWithin pl f (mLand over (mJump ⟨17, 0, 0, 0, 0⟩ s3))
  mLand end_ (mMust [101, 110, 100] s4)
 else mLand over (mMust [101, 110, 100] s2)
def mLoop (N : Nat) (f : CS → CS) (pl : Int) (s : CS) : CS :=
 let again := (s.code.length : Int)
 let r := mExpr N s
 let s1 := mMust [100, 111] r.2
 let over := (s1.code.length : Int)
 let s2 := mWithin pl f (mGive (mJump ⟨15, r.1, 0, 0, 0⟩ s1))
 mLand over (mBack ⟨17, 0, 0, 0, 0⟩ again (mMust [101, 110, 100] s2))
def mReads (s : CS) : CS :=
 let pl := mHere s
 let a := mName s
 let b := mLook a.1 pl a.2
 let s1 := if b.2.e = 0 ∧ b.1.kind ≠ 0 ∧ b.1.kind ≠ 2 then mStop 7 pl b.2 else b.2
 mStore b.1 4 (mPut ⟨20, 0, 0, 0, 1⟩ s1)
def mStmtB (N : Nat) (f : CS → CS) (s : CS) : CS :=
 let pl := mHere s
 if mSees [105, 102] s then mChoice N f pl (mTail s)
 else if mSees [119, 104, 105, 108, 101] s then mLoop N f pl (mTail s)
 else if mSees [119, 114, 105, 116, 101] s then
  let r := mExpr N (mTail s)
  mGive (mPut ⟨20, 0, 0, 0, 2⟩ (mPut ⟨1, 4, r.1, 0, 0⟩ r.2))
 else if mSees [114, 101, 97, 100] s then mReads (mTail s)
 else if mNamed s then mBegun N s
 else s
def mSeqs (st : CS → CS) : Nat → CS → CS
 | 0, s => s
 | m + 1, s => if s.e = 0 ∧ mSees [59] s then mSeqs st m (st (mTail s)) else s
def mStmtsB (st : CS → CS) (s : CS) : CS := mSeqs st (st s).toks.length (st s)
def mStmt (N : Nat) : Nat → CS → CS
 | 0, s => s
 | n + 1, s => mStmtB N (mStmtsB (mStmt N n)) s
def mStmts (N : Nat) : CS → CS := mStmtsB (mStmt N N)
def mDefs (s : CS) : List (ByteArray × Th) → CS
 | [] => s
 | e :: l => mDefs (mDef (Sc.txt e.1) e.2 s) l
def mRedefine (name : List UInt8) (t : Th) (s : CS) : CS :=
 mDefs (mOpen (mClose s)) ((mOwn s).map fun e => if e.1 = Sc.bs name then (e.1, t) else e)
def mVariable (s : CS) : CS :=
 let pl := mHere s
 let a := mName s
 let s1 := mDefine a.1 pl ⟨0, a.2.data, 1, false⟩ a.2
 if mSees [91] s1 then
  let s2 := mTail s1
  let pl2 := mHere s2
  let b := mNumber s2
  if b.2.e ≠ 0 then b.2
  else if b.1 < 1 ∨ b.1 > 2000 then mStop 3 pl2 b.2
  else if b.2.data + b.1 > 32000 then mStop 4 pl2 b.2
  else
   let s3 := mMust [93] (mRedefine a.1 ⟨1, a.2.data, b.1, false⟩ b.2)
   mMust [59] { s3 with data := s3.data + b.1 }
 else
  let s2 := if s1.e = 0 ∧ s1.data = 32000 then mStop 4 pl s1 else s1
  mMust [59] { s2 with data := s2.data + 1 }
def mParam (s : CS) : (List UInt8 × Int × Bool) × CS :=
 if mSees [40] s then
  let s1 := mTail s
  let a := mName s1
  ((a.1, mHere s1, true), mMust [41] a.2)
 else (([], 0, false), s)
def mFresh (name : List UInt8) (pl n : Int) (s : CS) : CS :=
 let s1 := if s.e = 0 ∧ (mFind name s).2.2 = true then mStop 6 pl s else s
 if s1.e = 0 ∧ n = 255 then mStop 4 pl s1 else s1
def mImported (s : CS) : CS :=
 let pl := mHere s
 let a := mName s
 let n := (a.2.imps.length : Int)
 let p := mParam (mFresh a.1 pl n a.2)
 let s1 := mDefine a.1 pl ⟨4, n, 0, p.1.2.2⟩ p.2
 mMust [59] { s1 with imps := s1.imps ++ [Sc.bs a.1] }
def mOwns (name : List UInt8) (pl size : Int) (s : CS) : CS :=
 let s1 := mDefine name pl ⟨2, size, 0, false⟩ s
 if s1.e = 0 ∧ size - 2 = 20 then mStop 4 pl s1 else s1
def mVars : Nat → Int → CS → Int × CS
 | 0, size, s => (size, s)
 | m + 1, size, s => if s.e = 0 then
   let a := mName s
   let s1 := mOwns a.1 (mHere s) size a.2
   if mSees [44] s1 then mVars m (size + 1) (mTail s1) else (size + 1, s1)
  else (size, s)
def mEnters (takes : Bool) : Nat → Int → CS → CS
 | 0, _, s => s
 | m + 1, n, s => mEnters takes m (n + 1) (mPut ⟨13, if takes = true ∧ n = 2 then 4 else 0, 30, 0, n⟩ s)
def mEnter (size : Int) (takes : Bool) (s : CS) : CS :=
 mEnters takes (size - 2).toNat 2 (mPut ⟨10, 30, 29, 0, 0⟩ (mPut ⟨13, 30, 29, 0, 1⟩ (mPut ⟨13, 31, 29, 0, 0⟩ (mPut ⟨14, 1, 7, 0, 32767⟩ (mMark ⟨10, 1, 29, 0, 0⟩ 3 0 (mPut ⟨10, 29, 29, 0, -size⟩ s))))))
def mLeave (size : Int) (s : CS) : CS := mPut ⟨19, 31, 0, 0, 0⟩ (mPut ⟨12, 30, 30, 0, 1⟩ (mPut ⟨12, 31, 30, 0, 0⟩ (mPut ⟨10, 29, 30, 0, size⟩ s)))
def mRoutine (N : Nat) (s : CS) : CS :=
 let pl := mHere s
 let a := mName s
 let here := (a.2.code.length : Int)
 let p := mParam (mFresh a.1 pl (a.2.exps.length : Int) a.2)
 let s1 := mDefine a.1 pl ⟨3, here, 0, p.1.2.2⟩ p.2
 let s2 := mOpen (mMust [59] { s1 with exps := s1.exps ++ [⟨Sc.bs a.1, here⟩] })
 let s3 := if p.1.2.2 then mOwns p.1.1 p.1.2.1 2 s2 else s2
 let size : Int := if p.1.2.2 then 3 else 2
 let v := if mSees [118, 97, 114] s3 then ((mVars (s3.toks.length) size (mTail s3)).1, mMust [59] (mVars (s3.toks.length) size (mTail s3)).2) else (size, s3)
 let s4 := mEnter v.1 p.1.2.2 (mMust [98, 101, 103, 105, 110] v.2)
 let s5 := mMust [59] (mMust [101, 110, 100] (mStmts N s4))
 mClose (mLeave v.1 s5)
def mDecls (N : Nat) : Nat → CS → CS
 | 0, s => s
 | m + 1, s => if s.e = 0 then (if mSees [118, 97, 114] s then mDecls N m (mVariable (mTail s))
  else if mSees [101, 120, 116, 101, 114, 110, 97, 108] s then mDecls N m (mImported (mTail s))
  else if mSees [112, 114, 111, 99, 101, 100, 117, 114, 101] s then mDecls N m (mRoutine N (mTail s))
  else s) else s
def mProgram (N : Nat) (s : CS) : CS :=
 let main := mSees [112, 114, 111, 103, 114, 97, 109] s
 let s1 := if main then mTail s else mMust [109, 111, 100, 117, 108, 101] s
 let a := mName s1
 let s2 := mOpen (mMust [59] { a.2 with name := Sc.bs a.1 })
 let begin_ := if main then (s2.code.length : Int) else 0
 let s3 := if main then mJump ⟨17, 0, 0, 0, 0⟩ s2 else s2
 let s4 := mDecls N s3.toks.length s3
 let s5 := if main then mPut ⟨20, 0, 0, 0, 0⟩ (mStmts N (mMark ⟨10, 29, 0, 0, 0⟩ 4 0 (mLand begin_ (mMust [98, 101, 103, 105, 110] s4)))) else s4
 let s6 := mMust [46] (mMust [101, 110, 100] s5)
 if s6.e = 0 ∧ s6.toks ≠ [] then mStop 2 (mHere s6) s6 else s6
structure Ob6 where
 mk ::
 (name : ByteArray) (code : List In) (data : Int) (exps : List Sy) (imps : List ByteArray) (pats : List Pa)
deriving DecidableEq
def cs0 (toks : List (Sc.Tk × Nat)) (en : Int) : CS := ⟨toks, en, [], [], 0, [], [], .empty, 0, [], [], 0, 0, 0, 0⟩
def compF (s : List UInt8) : Option Ob6 × Int × Int :=
 match Sc.scanD 0 s with
 | (l, pl, e) => if e ≠ 0 then (none, (pl : Int), e) else
  let c := mProgram (l.length + 1) (cs0 l (s.length : Int))
  let c2 := if c.e = 0 ∧ c.code.length > 4096 then mStop 4 (s.length : Int) c else c
  if c2.e ≠ 0 then (none, c2.bad, c2.e) else (some ⟨c2.name, c2.code, c2.data, c2.exps, c2.imps, c2.pats⟩, 0, 0)
end Go.Proofs.YtkolmklfgbimoaaGreatDoor.Cm
namespace Go.Proofs.YtkolmklfgbimoaaGreatDoor.Cm
open Go
set_option maxRecDepth 100000
def wt (s : CS) : Int := (s.code.length : Int) + s.pats.length + s.ents.length + s.begs.length + s.exps.length + s.imps.length + s.fac + s.nest + 100 * s.toks.length
structure Ex (k : Int) (s s' : CS) : Prop where
 en : s'.ents = s.ents
 bg : s'.begs = s.begs
 xp : s'.exps = s.exps
 im : s'.imps = s.imps
 da : s'.data = s.data
 tk : s.taken ≤ 8 → s'.taken ≤ 8
 nm : ∀ t ∈ s'.toks, t ∈ s.toks
 ln : s'.toks.length ≤ s.toks.length
 w : wt s' ≤ wt s + k
 fc : s.fac ≤ s'.fac
 ns : s.nest ≤ s'.nest
theorem Ex.tr {a b k : Int} {s s1 s2 : CS} (h : Ex a s s1) (g : Ex b s1 s2) (hk : a + b ≤ k := by omega) : Ex k s s2 :=
 ⟨g.en.trans h.en, g.bg.trans h.bg, g.xp.trans h.xp, g.im.trans h.im, g.da.trans h.da, fun x => g.tk (h.tk x), fun t ht => h.nm t (g.nm t ht), Nat.le_trans g.ln h.ln, by have := h.w; have := g.w; omega, Nat.le_trans h.fc g.fc, Nat.le_trans h.ns g.ns⟩
theorem Ex.up {a k : Int} {s s1 : CS} (h : Ex a s s1) (hk : a ≤ k := by omega) : Ex k s s1 := ⟨h.en, h.bg, h.xp, h.im, h.da, h.tk, h.nm, h.ln, by have := h.w; omega, h.fc, h.ns⟩
theorem Ex.rf {k : Int} {s : CS} (hk : 0 ≤ k := by omega) : Ex k s s := ⟨rfl, rfl, rfl, rfl, rfl, id, fun _ h => h, Nat.le_refl _, by omega, Nat.le_refl _, Nat.le_refl _⟩
theorem ex_stop (e pl : Int) (s : CS) : Ex 0 s (mStop e pl s) := ⟨rfl, rfl, rfl, rfl, rfl, id, (fun _ h => by cases h), Nat.zero_le _, by simp only [wt, mStop, List.length_nil]; omega, Nat.le_refl _, Nat.le_refl _⟩
theorem ex_tail {s : CS} (h : s.toks ≠ []) : Ex (-100) s (mTail s) := by
 obtain ⟨t, r, ht⟩ := List.exists_cons_of_ne_nil h
 exact ⟨rfl, rfl, rfl, rfl, rfl, id, fun _ hm => List.mem_of_mem_tail hm, by simp only [mTail, List.length_tail]; omega, by simp only [wt, mTail, ht, List.tail_cons, List.length_cons]; omega, Nat.le_refl _, Nat.le_refl _⟩
theorem sees_ne {w : List UInt8} {s : CS} (h : mSees w s = true) : s.toks ≠ [] := by
 intro ht; rw [mSees, ht] at h; exact absurd h (by simp)
theorem named_ne {s : CS} (h : mNamed s = true) : s.toks ≠ [] := by
 intro ht; rw [mNamed, ht] at h; exact absurd h (by simp)
theorem num_ne {s : CS} (h : mIsNum s = true) : s.toks ≠ [] := by
 intro ht; rw [mIsNum, ht] at h; exact absurd h (by simp)
theorem ex_sees {w : List UInt8} {s : CS} (h : mSees w s = true) : Ex (-100) s (mTail s) := ex_tail (sees_ne h)
theorem ex_has (w : List UInt8) (s : CS) : Ex 0 s (mHas w s) := by
 unfold mHas; split
 ·rename_i h; exact (ex_sees h).up
 ·exact .rf
theorem ex_must (w : List UInt8) (s : CS) : Ex 0 s (mMust w s) := by
 unfold mMust; split
 ·rename_i h; exact (ex_sees h).up
 ·exact ex_stop _ _ _
theorem ex_name (s : CS) : Ex 0 s (mName s).2 := by
 unfold mName; split
 ·rename_i h; exact (ex_tail (named_ne h)).up
 ·exact ex_stop _ _ _
theorem ex_named {s : CS} (h : mNamed s = true) : Ex (-100) s (mName s).2 := by
 unfold mName; rw [if_pos h]; exact ex_tail (named_ne h)
theorem ex_number (s : CS) : Ex 0 s (mNumber s).2 := by
 unfold mNumber; split
 ·rename_i h; exact (ex_tail (num_ne h)).up
 ·exact ex_stop _ _ _
theorem stop_e (e pl : Int) (s : CS) (he : e ≠ 0) : (mStop e pl s).e ≠ 0 := by
 simp only [mStop]; split
 ·exact he
 ·assumption
theorem ex_num {s : CS} (h : ¬ (mNumber s).2.e ≠ 0) : Ex (-100) s (mNumber s).2 ∧ mIsNum s = true ∧ mNumber s = (mNum s, mTail s) := by
 by_cases hn : mIsNum s = true
 ·have : mNumber s = (mNum s, mTail s) := by unfold mNumber; rw [if_pos hn]
  rw [this]
  exact ⟨ex_tail (num_ne hn), hn, rfl⟩
 ·exfalso
  unfold mNumber at h
  rw [if_neg hn] at h
  exact h (stop_e _ _ _ (by decide))
theorem ex_put (i : In) (s : CS) : Ex 1 s (mPut i s) := ⟨rfl, rfl, rfl, rfl, rfl, id, fun _ h => h, Nat.le_refl _, by simp only [wt, mPut, List.length_append, List.length_cons, List.length_nil]; omega, Nat.le_refl _, Nat.le_refl _⟩
theorem ex_mark (i : In) (a n : Int) (s : CS) : Ex 2 s (mMark i a n s) := ⟨rfl, rfl, rfl, rfl, rfl, id, fun _ h => h, Nat.le_refl _, by simp only [wt, mMark, mPut, List.length_append, List.length_cons, List.length_nil]; omega, Nat.le_refl _, Nat.le_refl _⟩
theorem ex_jump (i : In) (s : CS) : Ex 2 s (mJump i s) := by
 unfold mJump; split
 ·exact ex_mark _ _ _ _
 ·exact (ex_put _ _).up
theorem aimL_len {l l' : List In} {pl tg : Int} (h : aimL l pl tg = some l') : l'.length = l.length := by
 unfold aimL at h
 split at h
 ·cases h
 ·split at h
  ·cases h; simp
  ·cases h
theorem ex_aim (pl tg : Int) (s : CS) : Ex 0 s (mAim pl tg s) := by
 unfold mAim; split
 ·rename_i l h
  exact ⟨rfl, rfl, rfl, rfl, rfl, id, fun _ h => h, Nat.le_refl _, by simp only [wt, aimL_len h]; omega, Nat.le_refl _, Nat.le_refl _⟩
 ·exact .rf
theorem ex_land (pl : Int) (s : CS) : Ex 0 s (mLand pl s) := ex_aim _ _ _
theorem ex_back (i : In) (tg : Int) (s : CS) : Ex 2 s (mBack i tg s) := (ex_jump i s).tr (ex_aim _ _ _)
theorem ex_take (s : CS) : Ex 0 s (mTake s) := by
 unfold mTake; split
 ·exact .rf
 ·exact ⟨rfl, rfl, rfl, rfl, rfl, fun h => by dsimp only; omega, fun _ h => h, Nat.le_refl _, by simp only [wt]; omega, Nat.le_refl _, Nat.le_refl _⟩
theorem ex_give (s : CS) : Ex 0 s (mGive s) := ⟨rfl, rfl, rfl, rfl, rfl, fun h => by dsimp only [mGive]; omega, fun _ h => h, Nat.le_refl _, by simp only [wt, mGive]; omega, Nat.le_refl _, Nat.le_refl _⟩
theorem ex_reg (pl : Int) (s : CS) : Ex 0 s (mReg pl s).2 := by
 unfold mReg; split
 ·exact ex_stop _ _ _
 ·exact ex_take _
theorem ex_load (t : Th) (r : Int) (s : CS) : Ex 2 s (mLoad t r s) := by
 unfold mLoad; split
 ·exact (ex_put _ _).up
 ·exact ex_mark _ _ _ _
theorem ex_store (t : Th) (r : Int) (s : CS) : Ex 2 s (mStore t r s) := by
 unfold mStore; split
 ·exact (ex_put _ _).up
 ·exact ex_mark _ _ _ _
theorem ex_const (r n : Int) (s : CS) : Ex 1 s (mConst r n s) := ex_put _ _
theorem ex_look (name : List UInt8) (pl : Int) (s : CS) : Ex 0 s (mLook name pl s).2 := by
 unfold mLook; split
 ·exact .rf
 ·exact ex_stop _ _ _
theorem ex_fac (s : CS) : Ex 1 s { s with fac := s.fac + 1 } := ⟨rfl, rfl, rfl, rfl, rfl, id, fun _ h => h, Nat.le_refl _, by simp only [wt]; omega, Nat.le_succ _, Nat.le_refl _⟩
theorem ex_inner {f : CS → Int × CS} (pl : Int) (s : CS) (hf : Ex 0 { s with fac := s.fac + 1 } (f { s with fac := s.fac + 1 }).2) : Ex 1 s (mInner pl f s).2 := by
 unfold mInner; split
 ·exact (ex_fac s).tr (ex_stop _ _ _)
 ·have h := (ex_fac s).tr (k := 1) hf
  exact ⟨h.en, h.bg, h.xp, h.im, h.da, h.tk, h.nm, h.ln, by have := h.w; simp only [wt] at this ⊢; omega, by have := hf.fc; dsimp only at this ⊢; omega, h.ns⟩
theorem ex_index {ex : CS → Int × CS} (hx : ∀ s, Ex 0 s (ex s).2) (t : Th) (s : CS) : Ex 2 s (mIndex ex t s).2 := by
 unfold mIndex
 dsimp only
 split
 ·exact (ex_must _ _).up
 ·exact (((ex_must _ _).tr (k := 1) (ex_inner _ _ (hx _))).tr (k := 1) (ex_must _ _)).tr (ex_put _ _)
theorem ex_value {ex : CS → Int × CS} (hx : ∀ s, Ex 0 s (ex s).2) {s : CS} (hn : mNamed s = true) : Ex 0 s (mValue ex s).2 := by
 have h0 := ex_named hn
 unfold mValue
 dsimp only
 split
 ·exact h0.up
 ·have h1 := h0.tr (k := -100) (ex_look (mName s).1 (mHere s) _)
  split
  ·exact h1.up
  ·split
   ·exact h1.tr (ex_stop _ _ _)
   ·split
    ·exact (h1.tr (k := -98) (ex_index hx _ _)).tr (ex_mark _ _ _ _)
    ·exact (h1.tr (k := -100) (ex_reg _ _)).tr (ex_load _ _ _)
theorem ex_factorB {ex fa : CS → Int × CS} (hx : ∀ s, Ex 0 s (ex s).2) (hf : ∀ s, Ex 0 s (fa s).2) (s : CS) : Ex 0 s (mFactorB ex fa s).2 := by
 unfold mFactorB
 dsimp only
 split
 ·rename_i h
  exact ((ex_sees h).tr (k := -99) (ex_inner _ _ (hx _))).tr (ex_must _ _)
 ·split
  ·rename_i h
   exact ((ex_sees h).tr (k := -99) (ex_inner _ _ (hf _))).tr (ex_put _ _)
  ·split
   ·rename_i h
    exact ((ex_sees h).tr (k := -99) (ex_inner _ _ (hf _))).tr (ex_put _ _)
   ·split
    ·rename_i h
     exact ex_value hx h
    ·split
     ·exact ex_number s
     ·rename_i h
      exact ((ex_num h).1.tr (k := -100) (ex_reg _ _)).tr (ex_const _ _ _)
theorem ex_join {part : CS → Int × CS} (hp : ∀ s, Ex 0 s (part s).2) (ops : List (List UInt8 × Int)) (n : Int) : ∀ (m : Nat) (s : CS), Ex 0 s (mJoin part ops n m s)
 | 0, s => .rf
 | m + 1, s => by
  unfold mJoin
  split
  ·split
   ·exact .rf
   ·split
    ·rename_i h
     exact ((((ex_sees h).tr (k := -100) (hp _)).tr (k := -99) (ex_put _ _)).tr (k := -99) (ex_give _)).tr (ex_join hp ops n m _)
    ·exact .rf
  ·exact .rf
theorem ex_joined {part : CS → Int × CS} (hp : ∀ s, Ex 0 s (part s).2) (ops : List (List UInt8 × Int)) (s : CS) : Ex 0 s (mJoined part ops s).2 := (hp s).tr (ex_join hp ops _ _ _)
theorem ex_sum {fa : CS → Int × CS} (hf : ∀ s, Ex 0 s (fa s).2) (s : CS) : Ex 0 s (mSum fa s).2 := ex_joined (fun s => ex_joined hf termO s) sumO s
theorem ex_cmp {fa : CS → Int × CS} (hf : ∀ s, Ex 0 s (fa s).2) (n : Int) {w : List UInt8} {s : CS} (h : mSees w s = true) : Ex 0 s (mCmp fa n w s) := by
 unfold mCmp
 dsimp only
 have h1 := (ex_sees h).tr (k := -100) (ex_sum hf _)
 split <;> split <;> first
  | exact ((h1.tr (k := -99) (ex_put _ _)).tr (k := -98) (ex_put _ _)).tr (ex_give _)
  | exact (h1.tr (k := -99) (ex_put _ _)).tr (ex_give _)
theorem ex_cmps {fa : CS → Int × CS} (hf : ∀ s, Ex 0 s (fa s).2) (n : Int) : ∀ (l : List (List UInt8)) (s : CS), Ex 0 s (mCmps fa n l s)
 | [], s => .rf
 | w :: l, s => by
  unfold mCmps
  split
  ·rename_i h; exact ex_cmp hf n h.2
  ·exact ex_cmps hf n l s
theorem ex_exprB {fa : CS → Int × CS} (hf : ∀ s, Ex 0 s (fa s).2) (s : CS) : Ex 0 s (mExprB fa s).2 := (ex_sum hf s).tr (ex_cmps hf _ _ _)
theorem ex_factor : ∀ (n : Nat) (s : CS), Ex 0 s (mFactor n s).2
 | 0, s => .rf
 | n + 1, s => ex_factorB (fun s => ex_exprB (ex_factor n) s) (ex_factor n) s
theorem ex_expr (N : Nat) (s : CS) : Ex 0 s (mExpr N s).2 := ex_exprB (ex_factor N) s
end Go.Proofs.YtkolmklfgbimoaaGreatDoor.Cm
namespace Go.Proofs.YtkolmklfgbimoaaGreatDoor.Cm
open Go
set_option maxRecDepth 100000
theorem ex_assign (N : Nat) (t : Th) (s : CS) : Ex 4 s (mAssign N t s) := by
 unfold mAssign
 dsimp only
 split
 ·exact (((((ex_index (ex_expr N) t s).tr (k := 2) (ex_must _ _)).tr (k := 2) (ex_expr N _)).tr (k := 4) (ex_mark _ _ _ _)).tr (k := 4) (ex_give _)).tr (ex_give _)
 ·exact (((ex_must _ _).tr (k := 0) (ex_expr N _)).tr (k := 2) (ex_store _ _ _)).tr (ex_give _)
theorem ex_arg (N : Nat) (t : Th) (s : CS) : Ex 1 s (mArg N t s) := by
 unfold mArg
 dsimp only
 split
 ·exact ((((ex_must _ _).tr (k := 0) (ex_expr N _)).tr (k := 0) (ex_must _ _)).tr (k := 1) (ex_put _ _)).tr (ex_give _)
 ·exact .rf
theorem ex_call (N : Nat) (t : Th) (s : CS) : Ex 3 s (mCall N t s) := by
 unfold mCall
 split
 ·exact (ex_arg N t s).tr (ex_mark _ _ _ _)
 ·exact (ex_arg N t s).tr (ex_back _ _ _)
theorem ex_begun (N : Nat) {s : CS} (h : mNamed s = true) : Ex 0 s (mBegun N s) := by
 unfold mBegun
 dsimp only
 have h1 := (ex_named h).tr (k := -100) (ex_look (mName s).1 (mHere s) _)
 split
 ·exact h1.up
 ·split
  ·exact h1.tr (ex_call _ _ _)
  ·exact h1.tr (ex_assign _ _ _)
theorem ex_nest (s : CS) : Ex 1 s { s with nest := s.nest + 1 } := ⟨rfl, rfl, rfl, rfl, rfl, id, fun _ h => h, Nat.le_refl _, by simp only [wt]; omega, Nat.le_refl _, Nat.le_succ _⟩
theorem ex_within {f : CS → CS} (pl : Int) (s : CS) (hf : Ex 0 { s with nest := s.nest + 1 } (f { s with nest := s.nest + 1 })) : Ex 1 s (mWithin pl f s) := by
 unfold mWithin
 split
 ·exact (ex_nest s).tr (ex_stop _ _ _)
 ·have h := (ex_nest s).tr (k := 1) hf
  exact ⟨h.en, h.bg, h.xp, h.im, h.da, h.tk, h.nm, h.ln, by have := h.w; simp only [wt] at this ⊢; omega, h.fc, by have := hf.ns; dsimp only at this ⊢; omega⟩
theorem ex_choice (N : Nat) {f : CS → CS} (hf : ∀ s, Ex 0 s (f s)) (pl : Int) (s : CS) : Ex 10 s (mChoice N f pl s) := by
 unfold mChoice
 dsimp only
 have h1 := (((((ex_expr N s).tr (k := 0) (ex_must [116, 104, 101, 110] _)).tr (k := 2) (ex_jump ⟨15, (mExpr N s).1, 0, 0, 0⟩ _)).tr (k := 2) (ex_give _)).tr (k := 3) (ex_within pl _ (hf _)))
 split
 ·rename_i h
  exact ((((((h1.tr (k := 3) ((ex_sees h).up (k := 0))).tr (k := 5) (ex_jump _ _)).tr (k := 5) (ex_land _ _)).tr (k := 6) (ex_within pl _ (hf _))).tr (k := 6) (ex_must _ _))).tr (ex_land _ _)
 ·exact (h1.tr (k := 3) (ex_must _ _)).tr (ex_land _ _)
theorem ex_loop (N : Nat) {f : CS → CS} (hf : ∀ s, Ex 0 s (f s)) (pl : Int) (s : CS) : Ex 10 s (mLoop N f pl s) := by
 unfold mLoop
 dsimp only
 exact ((((((((ex_expr N s).tr (k := 0) (ex_must [100, 111] _)).tr (k := 2) (ex_jump _ _)).tr (k := 2) (ex_give _)).tr (k := 3) (ex_within pl _ (hf _))).tr (k := 3) (ex_must _ _)).tr (k := 5) (ex_back _ _ _))).tr (ex_land _ _)
theorem ex_reads (s : CS) : Ex 3 s (mReads s) := by
 unfold mReads
 dsimp only
 have h1 := (ex_name s).tr (k := 0) (ex_look (mName s).1 (mHere s) _)
 split
 ·exact ((h1.tr (k := 0) (ex_stop _ _ _)).tr (k := 1) (ex_put _ _)).tr (ex_store _ _ _)
 ·exact (h1.tr (k := 1) (ex_put _ _)).tr (ex_store _ _ _)
theorem ex_stmtB (N : Nat) {f : CS → CS} (hf : ∀ s, Ex 0 s (f s)) (s : CS) : Ex 0 s (mStmtB N f s) := by
 unfold mStmtB
 dsimp only
 split
 ·rename_i h; exact (ex_sees h).tr (ex_choice N hf _ _)
 ·split
  ·rename_i h; exact (ex_sees h).tr (ex_loop N hf _ _)
  ·split
   ·rename_i h; exact ((((ex_sees h).tr (k := -100) (ex_expr N _)).tr (k := -99) (ex_put _ _)).tr (k := -98) (ex_put _ _)).tr (ex_give _)
   ·split
    ·rename_i h; exact (ex_sees h).tr (ex_reads _)
    ·split
     ·rename_i h; exact ex_begun N h
     ·exact .rf
theorem ex_seqs {st : CS → CS} (hs : ∀ s, Ex 0 s (st s)) : ∀ (m : Nat) (s : CS), Ex 0 s (mSeqs st m s)
 | 0, s => .rf
 | m + 1, s => by
  unfold mSeqs
  split
  ·rename_i h; exact (((ex_sees h.2).tr (k := -100) (hs _)).tr (k := -100) (ex_seqs hs m _)).up
  ·exact .rf
theorem ex_stmtsB {st : CS → CS} (hs : ∀ s, Ex 0 s (st s)) (s : CS) : Ex 0 s (mStmtsB st s) := (hs s).tr (ex_seqs hs _ _)
theorem ex_stmt (N : Nat) : ∀ (n : Nat) (s : CS), Ex 0 s (mStmt N n s)
 | 0, s => .rf
 | n + 1, s => ex_stmtB N (fun s => ex_stmtsB (ex_stmt N n) s) s
theorem ex_stmts (N : Nat) (s : CS) : Ex 0 s (mStmts N s) := ex_stmtsB (ex_stmt N N) s
end Go.Proofs.YtkolmklfgbimoaaGreatDoor.Cm
namespace Go.Proofs.YtkolmklfgbimoaaGreatDoor.Cm
open Go
set_option maxRecDepth 100000
structure GD (s : CS) : Prop where
 tk : s.taken ≤ 8
 bg : ∀ b ∈ s.begs, b ≤ s.ents.length
 nm : ∀ t ∈ s.toks, 0 ≤ t.1.num ∧ t.1.num ≤ 32767
 so : s.begs.Pairwise (· ≤ ·)
structure Dx (k : Int) (s s' : CS) : Prop where
 g : GD s → GD s'
 w : wt s' ≤ wt s + k
 ln : s'.toks.length ≤ s.toks.length
theorem Dx.tr {a b k : Int} {s s1 s2 : CS} (h : Dx a s s1) (g : Dx b s1 s2) (hk : a + b ≤ k := by omega) : Dx k s s2 := ⟨fun x => g.g (h.g x), by have := h.w; have := g.w; omega, Nat.le_trans g.ln h.ln⟩
theorem Dx.up {a k : Int} {s s1 : CS} (h : Dx a s s1) (hk : a ≤ k := by omega) : Dx k s s1 := ⟨h.g, by have := h.w; omega, h.ln⟩
theorem Dx.rf {k : Int} {s : CS} (hk : 0 ≤ k := by omega) : Dx k s s := ⟨id, by omega, Nat.le_refl _⟩
theorem Ex.dx {k : Int} {s s1 : CS} (e : Ex k s s1) : Dx k s s1 := ⟨fun h => ⟨e.tk h.tk, by rw [e.en, e.bg]; exact h.bg, fun t ht => h.nm t (e.nm t ht), by rw [e.bg]; exact h.so⟩, e.w, e.ln⟩
theorem dx_def (name : List UInt8) (t : Th) (s : CS) : Dx 1 s (mDef name t s) := by
 unfold mDef; split
 ·exact ⟨fun h => ⟨h.tk, fun b hb => by have := h.bg b hb; simp only [List.length_append, List.length_cons, List.length_nil]; omega, h.nm, h.so⟩, by simp only [wt, List.length_append, List.length_cons, List.length_nil]; omega, Nat.le_refl _⟩
 ·exact .rf
theorem dx_define (name : List UInt8) (pl : Int) (t : Th) (s : CS) : Dx 1 s (mDefine name pl t s) := by
 unfold mDefine; split
 ·split
  ·exact dx_def _ _ _
  ·exact (ex_stop _ _ _).dx.up
 ·exact .rf
theorem dx_open (s : CS) : Dx 1 s (mOpen s) := by
 refine ⟨fun h => ⟨h.tk, fun b hb => ?_, h.nm, ?_⟩, by simp only [wt, mOpen, List.length_append, List.length_cons, List.length_nil]; omega, Nat.le_refl _⟩
 ·simp only [mOpen, List.mem_append, List.mem_cons, List.not_mem_nil, or_false] at hb
  rcases hb with hb | rfl
  ·exact h.bg b hb
  ·exact Nat.le_refl _
 ·simp only [mOpen]
  rw [List.pairwise_append]
  refine ⟨h.so, List.pairwise_singleton _ _, fun a ha b hb => ?_⟩
  simp only [List.mem_cons, List.not_mem_nil, or_false] at hb
  subst hb
  exact h.bg a ha
theorem dx_close (s : CS) : Dx 0 s (mClose s) := by
 unfold mClose; split
 ·exact .rf
 ·rename_i hk
  have hne : s.begs ≠ [] := fun h => hk (by rw [h]; rfl)
  have hL : s.begs.getLastD 0 = s.begs.getLast hne := by rw [List.getLastD_eq_getLast?, List.getLast?_eq_some_getLast hne]; rfl
  refine ⟨fun h => ⟨h.tk, fun b hb => ?_, h.nm, ?_⟩, ?_, Nat.le_refl _⟩
  ·dsimp only at hb ⊢
   rw [List.length_take, hL]
   have h1 := h.bg _ (List.getLast_mem hne)
   have h2 : b ≤ s.begs.getLast hne := by
    have h3 := h.so
    rw [← List.dropLast_concat_getLast hne, List.pairwise_append] at h3
    exact h3.2.2 b hb _ (List.mem_singleton.2 rfl)
   omega
  ·exact h.so.sublist (List.dropLast_sublist _)
  ·simp only [wt, List.length_take, List.length_dropLast]; omega
theorem ex_param (s : CS) : Ex 0 s (mParam s).2 := by
 unfold mParam; dsimp only; split
 ·rename_i h; exact (((ex_sees h).tr (k := -100) (ex_name _)).tr (k := -100) (ex_must _ _)).up
 ·exact .rf
theorem ex_fresh (name : List UInt8) (pl n : Int) (s : CS) : Ex 0 s (mFresh name pl n s) := by
 unfold mFresh; dsimp only
 split <;> split <;> first
  | exact (ex_stop _ _ _).tr (ex_stop _ _ _)
  | exact ex_stop _ _ _
  | exact .rf
theorem dx_imp (n : ByteArray) (s : CS) : Dx 1 s { s with imps := s.imps ++ [n] } := ⟨fun h => ⟨h.tk, h.bg, h.nm, h.so⟩, by simp only [wt, List.length_append, List.length_cons, List.length_nil]; omega, Nat.le_refl _⟩
theorem dx_exp (n : Sy) (s : CS) : Dx 1 s { s with exps := s.exps ++ [n] } := ⟨fun h => ⟨h.tk, h.bg, h.nm, h.so⟩, by simp only [wt, List.length_append, List.length_cons, List.length_nil]; omega, Nat.le_refl _⟩
theorem dx_imported (s : CS) : Dx 2 s (mImported s) := by
 unfold mImported; dsimp only
 exact (((((ex_name s).tr (k := 0) (ex_fresh _ _ _ _)).tr (k := 0) (ex_param _)).dx.tr (k := 1) (dx_define _ _ _ _)).tr (k := 2) (dx_imp _ _)).tr (ex_must _ _).dx
theorem dx_owns (name : List UInt8) (pl size : Int) (s : CS) : Dx 1 s (mOwns name pl size s) := by
 unfold mOwns; dsimp only
 split
 ·exact (dx_define _ _ _ _).tr (ex_stop _ _ _).dx
 ·exact dx_define _ _ _ _
theorem dx_vars : ∀ (m : Nat) (size : Int) (s : CS), GD s → GD (mVars m size s).2 ∧ (mVars m size s).2.toks.length ≤ s.toks.length ∧ size ≤ (mVars m size s).1 ∧ wt (mVars m size s).2 + 2 * (mVars m size s).1 ≤ wt s + 2 * size + 3
 | 0, size, s, h => ⟨h, Nat.le_refl _, Int.le_refl _, by simp only [mVars]; omega⟩
 | m + 1, size, s, h => by
  unfold mVars
  dsimp only
  have h1 := ((ex_name s).dx.tr (k := 1) (dx_owns (mName s).1 (mHere s) size _))
  split
  ·split
   ·rename_i hs
    have h2 := h1.tr (k := -99) (ex_sees hs).dx
    obtain ⟨a, b, c, d⟩ := dx_vars m (size + 1) _ (h2.g h)
    exact ⟨a, Nat.le_trans b h2.ln, by omega, by have := h2.w; omega⟩
   ·exact ⟨h1.g h, h1.ln, by omega, by have := h1.w; dsimp only; omega⟩
  ·exact ⟨h, Nat.le_refl _, Int.le_refl _, by dsimp only; omega⟩
theorem ex_enters (takes : Bool) : ∀ (m : Nat) (n : Int) (s : CS), Ex m s (mEnters takes m n s)
 | 0, n, s => .rf
 | m + 1, n, s => by
  unfold mEnters
  exact (ex_put _ s).tr (ex_enters takes m (n + 1) _)
theorem ex_enter (size : Int) (takes : Bool) (h : 2 ≤ size) (s : CS) : Ex (size + 5) s (mEnter size takes s) := by
 unfold mEnter
 exact ((((((ex_put _ s).tr (k := 3) (ex_mark _ _ _ _)).tr (k := 4) (ex_put _ _)).tr (k := 5) (ex_put _ _)).tr (k := 6) (ex_put _ _)).tr (k := 7) (ex_put _ _)).tr (ex_enters takes _ 2 _)
theorem ex_leave (size : Int) (s : CS) : Ex 4 s (mLeave size s) := (((ex_put _ s).tr (k := 2) (ex_put _ _)).tr (k := 3) (ex_put _ _)).tr (ex_put _ _)
end Go.Proofs.YtkolmklfgbimoaaGreatDoor.Cm
namespace Go.Proofs.YtkolmklfgbimoaaGreatDoor.Cm
open Go
set_option maxRecDepth 100000
theorem dx_routine (N : Nat) (s : CS) (hg : GD s) : GD (mRoutine N s) ∧ wt (mRoutine N s) ≤ wt s + 60 ∧ (mRoutine N s).toks.length ≤ s.toks.length := by
 unfold mRoutine
 dsimp only
 have e3 := ((ex_name s).tr (k := 0) (ex_fresh (mName s).1 (mHere s) (((mName s).2.exps.length : Nat) : Int) (mName s).2)).tr (k := 0) (ex_param _)
 generalize mParam (mFresh (mName s).1 (mHere s) (((mName s).2.exps.length : Nat) : Int) (mName s).2) = p at *
 obtain ⟨⟨pn, pp, pt⟩, s3⟩ := p
 dsimp only at *
 have d6 := (((e3.dx.tr (k := 1) (dx_define (mName s).1 (mHere s) ⟨3, ((mName s).2.code.length : Int), 0, pt⟩ s3)).tr (k := 2) (dx_exp ⟨Sc.bs (mName s).1, ((mName s).2.code.length : Int)⟩ _)).tr (k := 2) (ex_must [59] _).dx).tr (k := 3) (dx_open _)
 generalize mOpen (mMust [59] { mDefine (mName s).1 (mHere s) ⟨3, ((mName s).2.code.length : Int), 0, pt⟩ s3 with exps := (mDefine (mName s).1 (mHere s) ⟨3, ((mName s).2.code.length : Int), 0, pt⟩ s3).exps ++ [⟨Sc.bs (mName s).1, ((mName s).2.code.length : Int)⟩] }) = s6 at *
 have hend : ∀ (sz : Int) (q : CS), 2 ≤ sz → GD q → GD (mClose (mLeave sz (mMust [59] (mMust [101, 110, 100] (mStmts N (mEnter sz pt (mMust [98, 101, 103, 105, 110] q))))))) ∧ wt (mClose (mLeave sz (mMust [59] (mMust [101, 110, 100] (mStmts N (mEnter sz pt (mMust [98, 101, 103, 105, 110] q))))))) ≤ wt q + sz + 9 ∧ (mClose (mLeave sz (mMust [59] (mMust [101, 110, 100] (mStmts N (mEnter sz pt (mMust [98, 101, 103, 105, 110] q))))))).toks.length ≤ q.toks.length := by
  intro sz q h2 gq
  have e := (((((ex_must [98, 101, 103, 105, 110] q).tr (k := sz + 5) (ex_enter sz pt h2 _)).tr (k := sz + 5) (ex_stmts N _)).tr (k := sz + 5) (ex_must [101, 110, 100] _)).tr (k := sz + 5) (ex_must [59] _)).tr (k := sz + 9) (ex_leave sz _)
  have d := e.dx.tr (k := sz + 9) (dx_close _)
  exact ⟨d.g gq, by have := d.w; omega, d.ln⟩
 cases pt with
 | true =>
  simp only [if_true]
  have d7 := d6.tr (k := 4) (dx_owns pn pp 2 s6)
  generalize mOwns pn pp 2 s6 = s7 at *
  have w7 := d7.w
  split
  ·rename_i hv
   have e8 := ex_sees hv
   have w8 := e8.w
   obtain ⟨a, b, c, d⟩ := dx_vars s7.toks.length 3 (mTail s7) (e8.dx.g (d7.g hg))
   generalize mVars s7.toks.length 3 (mTail s7) = R at *
   have e9 := ex_must [59] R.2
   have w9 := e9.w
   have p9 : 0 ≤ wt R.2 := by unfold wt; omega
   obtain ⟨x, y, z⟩ := hend R.1 _ (by omega) (e9.dx.g a)
   have q9 : 0 ≤ wt (mMust [59] R.2) := by unfold wt; omega
   exact ⟨x, by dsimp only; omega, by have := e9.ln; have := e8.ln; have := d7.ln; dsimp only; omega⟩
  ·obtain ⟨x, y, z⟩ := hend 3 s7 (by omega) (d7.g hg)
   exact ⟨x, by dsimp only; omega, by have := d7.ln; dsimp only; omega⟩
 | false =>
  simp only [if_neg (show ¬ (false = true) by decide)]
  have w6 := d6.w
  split
  ·rename_i hv
   have e8 := ex_sees hv
   have w8 := e8.w
   obtain ⟨a, b, c, d⟩ := dx_vars s6.toks.length 2 (mTail s6) (e8.dx.g (d6.g hg))
   generalize mVars s6.toks.length 2 (mTail s6) = R at *
   have e9 := ex_must [59] R.2
   have w9 := e9.w
   obtain ⟨x, y, z⟩ := hend R.1 _ (by omega) (e9.dx.g a)
   exact ⟨x, by dsimp only; omega, by have := e9.ln; have := e8.ln; have := d6.ln; dsimp only; omega⟩
  ·obtain ⟨x, y, z⟩ := hend 2 s6 (by omega) (d6.g hg)
   exact ⟨x, by dsimp only; omega, by have := d6.ln; dsimp only; omega⟩
end Go.Proofs.YtkolmklfgbimoaaGreatDoor.Cm
namespace Go.Proofs.YtkolmklfgbimoaaGreatDoor.Cm
open Go
set_option maxRecDepth 100000
theorem wt_close (s : CS) : wt (mClose s) + (mOwn s).length ≤ wt s := by
 unfold mClose mOwn
 split
 ·simp
 ·rename_i h
  simp only [wt, List.length_take, List.length_drop, List.length_dropLast]; omega
theorem dx_defs : ∀ (l : List (ByteArray × Th)) (s : CS), Dx l.length s (mDefs s l)
 | [], s => .rf
 | e :: l, s => by
  unfold mDefs
  exact (dx_def _ _ s).tr (dx_defs l _) (by simp only [List.length_cons]; omega)
theorem dx_redefine (name : List UInt8) (t : Th) (s : CS) : Dx 1 s (mRedefine name t s) := by
 unfold mRedefine
 have h1 := (dx_close s).tr (k := 1) (dx_open _)
 have h2 := dx_defs ((mOwn s).map fun e => if e.1 = Sc.bs name then (e.1, t) else e) (mOpen (mClose s))
 rw [List.length_map] at h2
 have h3 := wt_close s
 have h4 := (dx_open (mClose s)).w
 exact ⟨fun g => h2.g (h1.g g), by have := h2.w; omega, Nat.le_trans h2.ln h1.ln⟩
theorem dx_data (s : CS) (d : Int) : Dx 0 s { s with data := d } := ⟨fun h => ⟨h.tk, h.bg, h.nm, h.so⟩, by simp only [wt]; omega, Nat.le_refl _⟩
theorem dx_variable (s : CS) : Dx 3 s (mVariable s) := by
 unfold mVariable
 dsimp only
 have h1 := (ex_name s).dx.tr (k := 1) (dx_define (mName s).1 (mHere s) ⟨0, (mName s).2.data, 1, false⟩ _)
 split
 ·rename_i hs
  have h2 := (h1.tr (k := -99) (ex_sees hs).dx).tr (k := -99) (ex_number _).dx
  split
  ·exact h2.up
  ·split
   ·exact (h2.tr (k := -99) (ex_stop _ _ _).dx).up
   ·split
    ·exact (h2.tr (k := -99) (ex_stop _ _ _).dx).up
    ·exact ((((h2.tr (k := -98) (dx_redefine _ _ _)).tr (k := -98) (ex_must _ _).dx).tr (k := -98) (dx_data _ _)).tr (k := -98) (ex_must _ _).dx).up
 ·split
  ·exact ((h1.tr (k := 1) (ex_stop _ _ _).dx).tr (k := 1) (dx_data _ _)).tr (ex_must _ _).dx
  ·exact (h1.tr (k := 1) (dx_data _ _)).tr (ex_must _ _).dx
theorem dx_decls (N : Nat) : ∀ (m : Nat) (s : CS), GD s → GD (mDecls N m s) ∧ wt (mDecls N m s) ≤ wt s ∧ (mDecls N m s).toks.length ≤ s.toks.length
 | 0, s, h => ⟨h, Int.le_refl _, Nat.le_refl _⟩
 | m + 1, s, h => by
  unfold mDecls
  split
  ·split
   ·rename_i hs
    have h1 := (ex_sees hs).dx.tr (k := -97) (dx_variable _)
    obtain ⟨a, b, c⟩ := dx_decls N m _ (h1.g h)
    exact ⟨a, by have := h1.w; omega, Nat.le_trans c h1.ln⟩
   ·split
    ·rename_i hs
     have h1 := (ex_sees hs).dx.tr (k := -98) (dx_imported _)
     obtain ⟨a, b, c⟩ := dx_decls N m _ (h1.g h)
     exact ⟨a, by have := h1.w; omega, Nat.le_trans c h1.ln⟩
    ·split
     ·rename_i hs
      have h0 := (ex_sees hs).dx
      obtain ⟨x, y, z⟩ := dx_routine N _ (h0.g h)
      obtain ⟨a, b, c⟩ := dx_decls N m _ x
      exact ⟨a, by have := h0.w; omega, Nat.le_trans c (Nat.le_trans z h0.ln)⟩
     ·exact ⟨h, Int.le_refl _, Nat.le_refl _⟩
  ·exact ⟨h, Int.le_refl _, Nat.le_refl _⟩
end Go.Proofs.YtkolmklfgbimoaaGreatDoor.Cm
namespace Go.Proofs.YtkolmklfgbimoaaGreatDoor.Cm
open Go
set_option maxRecDepth 100000
structure Nb (M : Nat) (s : CS) : Prop where
 na : s.name.size ≤ M
 xp : ∀ x ∈ s.exps, x.name.size ≤ M
 im : ∀ x ∈ s.imps, x.size ≤ M
 tk : ∀ t ∈ s.toks, t.1.kind = 1 → t.1.text.length ≤ M
structure Nx (s s' : CS) : Prop where
 g : ∀ M, Nb M s → Nb M s'
theorem Nx.tr {s s1 s2 : CS} (h : Nx s s1) (g : Nx s1 s2) : Nx s s2 := ⟨fun M x => g.g M (h.g M x)⟩
theorem Nx.rf {s : CS} : Nx s s := ⟨fun _ x => x⟩
theorem nx_same {s s' : CS} (h1 : s'.name = s.name) (h2 : s'.exps = s.exps) (h3 : s'.imps = s.imps) (h4 : ∀ t ∈ s'.toks, t ∈ s.toks) : Nx s s' :=
 ⟨fun M x => ⟨by rw [h1]; exact x.na, by rw [h2]; exact x.xp, by rw [h3]; exact x.im, fun t ht => x.tk t (h4 t ht)⟩⟩
theorem nx_stop (e pl : Int) (s : CS) : Nx s (mStop e pl s) := nx_same rfl rfl rfl (fun _ h => by cases h)
theorem nx_tail {s : CS} (h : s.toks ≠ []) : Nx s (mTail s) := nx_same rfl rfl rfl (fun _ hm => List.mem_of_mem_tail hm)
theorem nx_put (i : In) (s : CS) : Nx s (mPut i s) := nx_same rfl rfl rfl (fun _ h => h)
theorem nx_mark (i : In) (a n : Int) (s : CS) : Nx s (mMark i a n s) := nx_same rfl rfl rfl (fun _ h => h)
theorem nx_aim (pl tg : Int) (s : CS) : Nx s (mAim pl tg s) := by
 unfold mAim; split
 ·exact nx_same rfl rfl rfl (fun _ h => h)
 ·exact .rf
theorem nx_take (s : CS) : Nx s (mTake s) := by
 unfold mTake; split
 ·exact .rf
 ·exact nx_same rfl rfl rfl (fun _ h => h)
theorem nx_give (s : CS) : Nx s (mGive s) := nx_same rfl rfl rfl (fun _ h => h)
theorem nx_fac (s : CS) : Nx s { s with fac := s.fac + 1 } := nx_same rfl rfl rfl (fun _ h => h)
theorem nx_inner {f : CS → Int × CS} (pl : Int) (s : CS) (hf : Nx { s with fac := s.fac + 1 } (f { s with fac := s.fac + 1 }).2) : Nx s (mInner pl f s).2 := by
 unfold mInner; split
 ·exact (nx_fac s).tr (nx_stop _ _ _)
 ·exact ((nx_fac s).tr hf).tr (nx_same rfl rfl rfl (fun _ h => h))
theorem nx_nest (s : CS) : Nx s { s with nest := s.nest + 1 } := nx_same rfl rfl rfl (fun _ h => h)
theorem nx_within {f : CS → CS} (pl : Int) (s : CS) (hf : Nx { s with nest := s.nest + 1 } (f { s with nest := s.nest + 1 })) : Nx s (mWithin pl f s) := by
 unfold mWithin
 split
 ·exact (nx_nest s).tr (nx_stop _ _ _)
 ·exact ((nx_nest s).tr hf).tr (nx_same rfl rfl rfl (fun _ h => h))
theorem nx_def (name : List UInt8) (t : Th) (s : CS) : Nx s (mDef name t s) := by
 unfold mDef; split
 ·exact nx_same rfl rfl rfl (fun _ h => h)
 ·exact .rf
theorem nx_open (s : CS) : Nx s (mOpen s) := nx_same rfl rfl rfl (fun _ h => h)
theorem nx_close (s : CS) : Nx s (mClose s) := by
 unfold mClose; split
 ·exact .rf
 ·exact nx_same rfl rfl rfl (fun _ h => h)
theorem nx_sees {w : List UInt8} {s : CS} (h : mSees w s = true) : Nx s (mTail s) := nx_tail (sees_ne h)
theorem nx_has (w : List UInt8) (s : CS) : Nx s (mHas w s) := by
 unfold mHas; split
 ·rename_i h; exact (nx_sees h)
 ·exact .rf
theorem nx_must (w : List UInt8) (s : CS) : Nx s (mMust w s) := by
 unfold mMust; split
 ·rename_i h; exact (nx_sees h)
 ·exact nx_stop _ _ _
theorem nx_name (s : CS) : Nx s (mName s).2 := by
 unfold mName; split
 ·rename_i h; exact (nx_tail (named_ne h))
 ·exact nx_stop _ _ _
theorem nx_named {s : CS} (h : mNamed s = true) : Nx s (mName s).2 := by
 unfold mName; rw [if_pos h]; exact nx_tail (named_ne h)
theorem nx_number (s : CS) : Nx s (mNumber s).2 := by
 unfold mNumber; split
 ·rename_i h; exact (nx_tail (num_ne h))
 ·exact nx_stop _ _ _
theorem nx_num {s : CS} (h : ¬ (mNumber s).2.e ≠ 0) : Nx s (mNumber s).2 ∧ mIsNum s = true ∧ mNumber s = (mNum s, mTail s) := by
 by_cases hn : mIsNum s = true
 ·have : mNumber s = (mNum s, mTail s) := by unfold mNumber; rw [if_pos hn]
  rw [this]
  exact ⟨nx_tail (num_ne hn), hn, rfl⟩
 ·exfalso
  unfold mNumber at h
  rw [if_neg hn] at h
  exact h (stop_e _ _ _ (by decide))
theorem nx_jump (i : In) (s : CS) : Nx s (mJump i s) := by
 unfold mJump; split
 ·exact nx_mark _ _ _ _
 ·exact (nx_put _ _)
theorem nx_land (pl : Int) (s : CS) : Nx s (mLand pl s) := nx_aim _ _ _
theorem nx_back (i : In) (tg : Int) (s : CS) : Nx s (mBack i tg s) := (nx_jump i s).tr (nx_aim _ _ _)
theorem nx_reg (pl : Int) (s : CS) : Nx s (mReg pl s).2 := by
 unfold mReg; split
 ·exact nx_stop _ _ _
 ·exact nx_take _
theorem nx_load (t : Th) (r : Int) (s : CS) : Nx s (mLoad t r s) := by
 unfold mLoad; split
 ·exact (nx_put _ _)
 ·exact nx_mark _ _ _ _
theorem nx_store (t : Th) (r : Int) (s : CS) : Nx s (mStore t r s) := by
 unfold mStore; split
 ·exact (nx_put _ _)
 ·exact nx_mark _ _ _ _
theorem nx_const (r n : Int) (s : CS) : Nx s (mConst r n s) := nx_put _ _
theorem nx_look (name : List UInt8) (pl : Int) (s : CS) : Nx s (mLook name pl s).2 := by
 unfold mLook; split
 ·exact .rf
 ·exact nx_stop _ _ _
theorem nx_index {ex : CS → Int × CS} (hx : ∀ s, Nx s (ex s).2) (t : Th) (s : CS) : Nx s (mIndex ex t s).2 := by
 unfold mIndex
 dsimp only
 split
 ·exact (nx_must _ _)
 ·exact (((nx_must _ _).tr (nx_inner _ _ (hx _))).tr (nx_must _ _)).tr (nx_put _ _)
theorem nx_value {ex : CS → Int × CS} (hx : ∀ s, Nx s (ex s).2) {s : CS} (hn : mNamed s = true) : Nx s (mValue ex s).2 := by
 have h0 := nx_named hn
 unfold mValue
 dsimp only
 split
 ·exact h0
 ·have h1 := h0.tr (nx_look (mName s).1 (mHere s) _)
  split
  ·exact h1
  ·split
   ·exact h1.tr (nx_stop _ _ _)
   ·split
    ·exact (h1.tr (nx_index hx _ _)).tr (nx_mark _ _ _ _)
    ·exact (h1.tr (nx_reg _ _)).tr (nx_load _ _ _)
theorem nx_factorB {ex fa : CS → Int × CS} (hx : ∀ s, Nx s (ex s).2) (hf : ∀ s, Nx s (fa s).2) (s : CS) : Nx s (mFactorB ex fa s).2 := by
 unfold mFactorB
 dsimp only
 split
 ·rename_i h
  exact ((nx_sees h).tr (nx_inner _ _ (hx _))).tr (nx_must _ _)
 ·split
  ·rename_i h
   exact ((nx_sees h).tr (nx_inner _ _ (hf _))).tr (nx_put _ _)
  ·split
   ·rename_i h
    exact ((nx_sees h).tr (nx_inner _ _ (hf _))).tr (nx_put _ _)
   ·split
    ·rename_i h
     exact nx_value hx h
    ·split
     ·exact nx_number s
     ·rename_i h
      exact ((nx_num h).1.tr (nx_reg _ _)).tr (nx_const _ _ _)
theorem nx_join {part : CS → Int × CS} (hp : ∀ s, Nx s (part s).2) (ops : List (List UInt8 × Int)) (n : Int) : ∀ (m : Nat) (s : CS), Nx s (mJoin part ops n m s)
 | 0, s => .rf
 | m + 1, s => by
  unfold mJoin
  split
  ·split
   ·exact .rf
   ·split
    ·rename_i h
     exact ((((nx_sees h).tr (hp _)).tr (nx_put _ _)).tr (nx_give _)).tr (nx_join hp ops n m _)
    ·exact .rf
  ·exact .rf
theorem nx_joined {part : CS → Int × CS} (hp : ∀ s, Nx s (part s).2) (ops : List (List UInt8 × Int)) (s : CS) : Nx s (mJoined part ops s).2 := (hp s).tr (nx_join hp ops _ _ _)
theorem nx_sum {fa : CS → Int × CS} (hf : ∀ s, Nx s (fa s).2) (s : CS) : Nx s (mSum fa s).2 := nx_joined (fun s => nx_joined hf termO s) sumO s
theorem nx_cmp {fa : CS → Int × CS} (hf : ∀ s, Nx s (fa s).2) (n : Int) {w : List UInt8} {s : CS} (h : mSees w s = true) : Nx s (mCmp fa n w s) := by
 unfold mCmp
 dsimp only
 have h1 := (nx_sees h).tr (nx_sum hf _)
 split <;> split <;> first
  | exact ((h1.tr (nx_put _ _)).tr (nx_put _ _)).tr (nx_give _)
  | exact (h1.tr (nx_put _ _)).tr (nx_give _)
theorem nx_cmps {fa : CS → Int × CS} (hf : ∀ s, Nx s (fa s).2) (n : Int) : ∀ (l : List (List UInt8)) (s : CS), Nx s (mCmps fa n l s)
 | [], s => .rf
 | w :: l, s => by
  unfold mCmps
  split
  ·rename_i h; exact nx_cmp hf n h.2
  ·exact nx_cmps hf n l s
theorem nx_exprB {fa : CS → Int × CS} (hf : ∀ s, Nx s (fa s).2) (s : CS) : Nx s (mExprB fa s).2 := (nx_sum hf s).tr (nx_cmps hf _ _ _)
theorem nx_factor : ∀ (n : Nat) (s : CS), Nx s (mFactor n s).2
 | 0, s => .rf
 | n + 1, s => nx_factorB (fun s => nx_exprB (nx_factor n) s) (nx_factor n) s
theorem nx_expr (N : Nat) (s : CS) : Nx s (mExpr N s).2 := nx_exprB (nx_factor N) s
theorem nx_assign (N : Nat) (t : Th) (s : CS) : Nx s (mAssign N t s) := by
 unfold mAssign
 dsimp only
 split
 ·exact (((((nx_index (nx_expr N) t s).tr (nx_must _ _)).tr (nx_expr N _)).tr (nx_mark _ _ _ _)).tr (nx_give _)).tr (nx_give _)
 ·exact (((nx_must _ _).tr (nx_expr N _)).tr (nx_store _ _ _)).tr (nx_give _)
theorem nx_arg (N : Nat) (t : Th) (s : CS) : Nx s (mArg N t s) := by
 unfold mArg
 dsimp only
 split
 ·exact ((((nx_must _ _).tr (nx_expr N _)).tr (nx_must _ _)).tr (nx_put _ _)).tr (nx_give _)
 ·exact .rf
theorem nx_call (N : Nat) (t : Th) (s : CS) : Nx s (mCall N t s) := by
 unfold mCall
 split
 ·exact (nx_arg N t s).tr (nx_mark _ _ _ _)
 ·exact (nx_arg N t s).tr (nx_back _ _ _)
theorem nx_begun (N : Nat) {s : CS} (h : mNamed s = true) : Nx s (mBegun N s) := by
 unfold mBegun
 dsimp only
 have h1 := (nx_named h).tr (nx_look (mName s).1 (mHere s) _)
 split
 ·exact h1
 ·split
  ·exact h1.tr (nx_call _ _ _)
  ·exact h1.tr (nx_assign _ _ _)
theorem nx_choice (N : Nat) {f : CS → CS} (hf : ∀ s, Nx s (f s)) (pl : Int) (s : CS) : Nx s (mChoice N f pl s) := by
 unfold mChoice
 dsimp only
 have h1 := (((((nx_expr N s).tr (nx_must [116, 104, 101, 110] _)).tr (nx_jump ⟨15, (mExpr N s).1, 0, 0, 0⟩ _)).tr (nx_give _)).tr (nx_within pl _ (hf _)))
 split
 ·rename_i h
  exact ((((((h1.tr ((nx_sees h))).tr (nx_jump _ _)).tr (nx_land _ _)).tr (nx_within pl _ (hf _))).tr (nx_must _ _))).tr (nx_land _ _)
 ·exact (h1.tr (nx_must _ _)).tr (nx_land _ _)
theorem nx_loop (N : Nat) {f : CS → CS} (hf : ∀ s, Nx s (f s)) (pl : Int) (s : CS) : Nx s (mLoop N f pl s) := by
 unfold mLoop
 dsimp only
 exact ((((((((nx_expr N s).tr (nx_must [100, 111] _)).tr (nx_jump _ _)).tr (nx_give _)).tr (nx_within pl _ (hf _))).tr (nx_must _ _)).tr (nx_back _ _ _))).tr (nx_land _ _)
theorem nx_reads (s : CS) : Nx s (mReads s) := by
 unfold mReads
 dsimp only
 have h1 := (nx_name s).tr (nx_look (mName s).1 (mHere s) _)
 split
 ·exact ((h1.tr (nx_stop _ _ _)).tr (nx_put _ _)).tr (nx_store _ _ _)
 ·exact (h1.tr (nx_put _ _)).tr (nx_store _ _ _)
theorem nx_stmtB (N : Nat) {f : CS → CS} (hf : ∀ s, Nx s (f s)) (s : CS) : Nx s (mStmtB N f s) := by
 unfold mStmtB
 dsimp only
 split
 ·rename_i h; exact (nx_sees h).tr (nx_choice N hf _ _)
 ·split
  ·rename_i h; exact (nx_sees h).tr (nx_loop N hf _ _)
  ·split
   ·rename_i h; exact ((((nx_sees h).tr (nx_expr N _)).tr (nx_put _ _)).tr (nx_put _ _)).tr (nx_give _)
   ·split
    ·rename_i h; exact (nx_sees h).tr (nx_reads _)
    ·split
     ·rename_i h; exact nx_begun N h
     ·exact .rf
theorem nx_seqs {st : CS → CS} (hs : ∀ s, Nx s (st s)) : ∀ (m : Nat) (s : CS), Nx s (mSeqs st m s)
 | 0, s => .rf
 | m + 1, s => by
  unfold mSeqs
  split
  ·rename_i h; exact (((nx_sees h.2).tr (hs _)).tr (nx_seqs hs m _))
  ·exact .rf
theorem nx_stmtsB {st : CS → CS} (hs : ∀ s, Nx s (st s)) (s : CS) : Nx s (mStmtsB st s) := (hs s).tr (nx_seqs hs _ _)
theorem nx_stmt (N : Nat) : ∀ (n : Nat) (s : CS), Nx s (mStmt N n s)
 | 0, s => .rf
 | n + 1, s => nx_stmtB N (fun s => nx_stmtsB (nx_stmt N n) s) s
theorem nx_stmts (N : Nat) (s : CS) : Nx s (mStmts N s) := nx_stmtsB (nx_stmt N N) s
theorem nx_define (name : List UInt8) (pl : Int) (t : Th) (s : CS) : Nx s (mDefine name pl t s) := by
 unfold mDefine; split
 ·split
  ·exact nx_def _ _ _
  ·exact (nx_stop _ _ _)
 ·exact .rf
theorem nx_param (s : CS) : Nx s (mParam s).2 := by
 unfold mParam; dsimp only; split
 ·rename_i h; exact (((nx_sees h).tr (nx_name _)).tr (nx_must _ _))
 ·exact .rf
theorem nx_fresh (name : List UInt8) (pl n : Int) (s : CS) : Nx s (mFresh name pl n s) := by
 unfold mFresh; dsimp only
 split <;> split <;> first
  | exact (nx_stop _ _ _).tr (nx_stop _ _ _)
  | exact nx_stop _ _ _
  | exact .rf
theorem nx_owns (name : List UInt8) (pl size : Int) (s : CS) : Nx s (mOwns name pl size s) := by
 unfold mOwns; dsimp only
 split
 ·exact (nx_define _ _ _ _).tr (nx_stop _ _ _)
 ·exact nx_define _ _ _ _
theorem nx_enters (takes : Bool) : ∀ (m : Nat) (n : Int) (s : CS), Nx s (mEnters takes m n s)
 | 0, n, s => .rf
 | m + 1, n, s => by
  unfold mEnters
  exact (nx_put _ s).tr (nx_enters takes m (n + 1) _)
theorem nx_enter (size : Int) (takes : Bool) (s : CS) : Nx s (mEnter size takes s) := by
 unfold mEnter
 exact ((((((nx_put _ s).tr (nx_mark _ _ _ _)).tr (nx_put _ _)).tr (nx_put _ _)).tr (nx_put _ _)).tr (nx_put _ _)).tr (nx_enters takes _ 2 _)
theorem nx_leave (size : Int) (s : CS) : Nx s (mLeave size s) := (((nx_put _ s).tr (nx_put _ _)).tr (nx_put _ _)).tr (nx_put _ _)
theorem name_le {M : Nat} {s : CS} (h : Nb M s) : (mName s).1.length ≤ M := by
 unfold mName; split
 ·rename_i hn
  unfold mText
  unfold mNamed at hn
  cases ht : s.toks with
  | nil => simp
  | cons t r =>
   rw [ht] at hn
   simp only [Bool.and_eq_true, decide_eq_true_eq] at hn
   exact h.tk t (by rw [ht]; simp) hn.1
 ·simp
theorem nb_imp {M : Nat} {s : CS} {n : ByteArray} (h : Nb M s) (hn : n.size ≤ M) : Nb M { s with imps := s.imps ++ [n] } :=
 ⟨h.na, h.xp, fun x hx => by
  rcases List.mem_append.1 hx with hx | hx
  ·exact h.im x hx
  ·rw [List.mem_singleton.1 hx]; exact hn, h.tk⟩
theorem nb_exp {M : Nat} {s : CS} {n : Sy} (h : Nb M s) (hn : n.name.size ≤ M) : Nb M { s with exps := s.exps ++ [n] } :=
 ⟨h.na, fun x hx => by
  rcases List.mem_append.1 hx with hx | hx
  ·exact h.xp x hx
  ·rw [List.mem_singleton.1 hx]; exact hn, h.im, h.tk⟩
theorem nx_imported (s : CS) : Nx s (mImported s) := ⟨fun M h => by
 have hn : (Sc.bs (mName s).1).size ≤ M := by rw [Sc.bs_size]; exact name_le h
 unfold mImported; dsimp only
 exact (nx_must _ _).g M (nb_imp ((((((nx_name s).tr (nx_fresh _ _ _ _)).tr (nx_param _))).tr (nx_define _ _ _ _)).g M h) hn)⟩
theorem nx_vars : ∀ (m : Nat) (size : Int) (s : CS), Nx s (mVars m size s).2
 | 0, size, s => .rf
 | m + 1, size, s => by
  unfold mVars
  dsimp only
  have h1 := ((nx_name s).tr (nx_owns (mName s).1 (mHere s) size _))
  split
  ·split
   ·rename_i hs
    exact (h1.tr (nx_sees hs)).tr (nx_vars m (size + 1) _)
   ·exact h1
  ·exact .rf
theorem nx_defs : ∀ (l : List (ByteArray × Th)) (s : CS), Nx s (mDefs s l)
 | [], s => .rf
 | e :: l, s => by
  unfold mDefs
  exact (nx_def _ _ s).tr (nx_defs l _)
theorem nx_redefine (name : List UInt8) (t : Th) (s : CS) : Nx s (mRedefine name t s) := by
 unfold mRedefine
 exact ((nx_close s).tr (nx_open _)).tr (nx_defs _ _)
theorem nx_data (s : CS) (d : Int) : Nx s { s with data := d } := nx_same rfl rfl rfl (fun _ h => h)
theorem nx_variable (s : CS) : Nx s (mVariable s) := by
 unfold mVariable
 dsimp only
 have h1 := (nx_name s).tr (nx_define (mName s).1 (mHere s) ⟨0, (mName s).2.data, 1, false⟩ _)
 split
 ·rename_i hs
  have h2 := (h1.tr (nx_sees hs)).tr (nx_number _)
  split
  ·exact h2
  ·split
   ·exact (h2.tr (nx_stop _ _ _))
   ·split
    ·exact (h2.tr (nx_stop _ _ _))
    ·exact ((((h2.tr (nx_redefine _ _ _)).tr (nx_must _ _)).tr (nx_data _ _)).tr (nx_must _ _))
 ·split
  ·exact ((h1.tr (nx_stop _ _ _)).tr (nx_data _ _)).tr (nx_must _ _)
  ·exact (h1.tr (nx_data _ _)).tr (nx_must _ _)
theorem nb_routine (N : Nat) (s : CS) (M : Nat) (h : Nb M s) : Nb M (mRoutine N s) := by
 have hn : (Sc.bs (mName s).1).size ≤ M := by rw [Sc.bs_size]; exact name_le h
 unfold mRoutine
 dsimp only
 have e3 := (((nx_name s).tr (nx_fresh (mName s).1 (mHere s) (((mName s).2.exps.length : Nat) : Int) (mName s).2)).tr (nx_param _)).g M h
 generalize mParam (mFresh (mName s).1 (mHere s) (((mName s).2.exps.length : Nat) : Int) (mName s).2) = p at *
 obtain ⟨⟨pn, pp, pt⟩, s3⟩ := p
 dsimp only at *
 have d6 := ((nx_must [59] _).tr (nx_open _)).g M (nb_exp (n := ⟨Sc.bs (mName s).1, ((mName s).2.code.length : Int)⟩) ((nx_define (mName s).1 (mHere s) ⟨3, ((mName s).2.code.length : Int), 0, pt⟩ s3).g M e3) hn)
 generalize mOpen (mMust [59] { mDefine (mName s).1 (mHere s) ⟨3, ((mName s).2.code.length : Int), 0, pt⟩ s3 with exps := (mDefine (mName s).1 (mHere s) ⟨3, ((mName s).2.code.length : Int), 0, pt⟩ s3).exps ++ [⟨Sc.bs (mName s).1, ((mName s).2.code.length : Int)⟩] }) = s6 at *
 have hend : ∀ (sz : Int) (q : CS), Nx q (mClose (mLeave sz (mMust [59] (mMust [101, 110, 100] (mStmts N (mEnter sz pt (mMust [98, 101, 103, 105, 110] q))))))) := fun sz q =>
  ((((((nx_must _ q).tr (nx_enter sz pt _)).tr (nx_stmts N _)).tr (nx_must _ _)).tr (nx_must _ _)).tr (nx_leave sz _)).tr (nx_close _)
 cases pt with
 | true =>
  simp only [if_true]
  have d7 := (nx_owns pn pp 2 s6).g M d6
  generalize mOwns pn pp 2 s6 = s7 at *
  split
  ·rename_i hv
   exact (hend _ _).g M ((((nx_sees hv).tr (nx_vars _ _ _)).tr (nx_must _ _)).g M d7)
  ·exact (hend _ _).g M d7
 | false =>
  simp only [if_neg (show ¬ (false = true) by decide)]
  split
  ·rename_i hv
   exact (hend _ _).g M ((((nx_sees hv).tr (nx_vars _ _ _)).tr (nx_must _ _)).g M d6)
  ·exact (hend _ _).g M d6
theorem nx_routine (N : Nat) (s : CS) : Nx s (mRoutine N s) := ⟨fun M h => nb_routine N s M h⟩
theorem nx_decls (N : Nat) : ∀ (m : Nat) (s : CS), Nx s (mDecls N m s)
 | 0, s => .rf
 | m + 1, s => by
  unfold mDecls
  split
  ·split
   ·rename_i hs; exact ((nx_sees hs).tr (nx_variable _)).tr (nx_decls N m _)
   ·split
    ·rename_i hs; exact ((nx_sees hs).tr (nx_imported _)).tr (nx_decls N m _)
    ·split
     ·rename_i hs; exact ((nx_sees hs).tr (nx_routine N _)).tr (nx_decls N m _)
     ·exact .rf
  ·exact .rf
theorem nb_nam {M : Nat} {s : CS} {n : ByteArray} (h : Nb M s) (hn : n.size ≤ M) : Nb M { s with name := n } := ⟨hn, h.xp, h.im, h.tk⟩
theorem nx_program (N : Nat) (s : CS) : Nx s (mProgram N s) := ⟨fun M h => by
 unfold mProgram
 dsimp only
 have h1 : Nb M (if mSees [112, 114, 111, 103, 114, 97, 109] s = true then mTail s else mMust [109, 111, 100, 117, 108, 101] s) := by
  split
  ·rename_i hs; exact (nx_sees hs).g M h
  ·exact (nx_must _ _).g M h
 generalize (if mSees [112, 114, 111, 103, 114, 97, 109] s = true then mTail s else mMust [109, 111, 100, 117, 108, 101] s) = s1 at *
 have hn : (Sc.bs (mName s1).1).size ≤ M := by rw [Sc.bs_size]; exact name_le h1
 have h2 := ((nx_must [59] _).tr (nx_open _)).g M (nb_nam ((nx_name s1).g M h1) hn)
 generalize mOpen (mMust [59] { (mName s1).2 with name := Sc.bs (mName s1).1 }) = s2 at *
 cases mSees [112, 114, 111, 103, 114, 97, 109] s with
 | true =>
  simp only [if_true]
  have h3 := (((((((((nx_jump ⟨17, 0, 0, 0, 0⟩ s2).tr (nx_decls N (mJump ⟨17, 0, 0, 0, 0⟩ s2).toks.length _)).tr (nx_must [98, 101, 103, 105, 110] _)).tr (nx_land (s2.code.length : Int) _)).tr (nx_mark ⟨10, 29, 0, 0, 0⟩ 4 0 _)).tr (nx_stmts N _)).tr (nx_put ⟨20, 0, 0, 0, 0⟩ _)).tr (nx_must [101, 110, 100] _)).tr (nx_must [46] _)).g M h2
  split
  ·exact (nx_stop _ _ _).g M h3
  ·exact h3
 | false =>
  simp only [if_neg (show ¬ (false = true) by decide)]
  have h3 := (((nx_decls N s2.toks.length s2).tr (nx_must [101, 110, 100] _)).tr (nx_must [46] _)).g M h2
  split
  ·exact (nx_stop _ _ _).g M h3
  ·exact h3⟩
end Go.Proofs.YtkolmklfgbimoaaGreatDoor.Cm
namespace Go.Proofs.YtkolmklfgbimoaaGreatDoor
open Go Go.Sx Go.Sx.Chunk
set_option maxRecDepth 100000
def glbP (g : Nat) (cs : List Value) : Piece := ⟨fun k => k = g, fun w => ∃ t z, w.heap[g]? = some (.cells cs.toArray t z), fun w w' h ⟨t, z, hok⟩ => ⟨t, z, (h g rfl).trans hok⟩⟩
def glb (g : Nat) (cs : List Value) : Chunk := .see (glbP g cs)
theorem glb_tab {P : Program} {w : World} {g : Nat} {k : IntKind} {zs : List Int} {name : String} (hg : P.globalNamed name = some g) (h : (glb g (zs.map fun z => Value.int k z)).ok w) : Lib.TabIs P w name k zs := by
 obtain ⟨t, z, h⟩ := h
 unfold Lib.TabIs World.var?
 rw [hg]
 simp only [Option.bind_some]
 rw [h]
theorem st_grow {w : World} {k : Nat} {os : Array Obj} : St w (ownsW []) (Go.Sort.grow (w.drewN k) os) [] :=
 ⟨⟨rfl, rfl, rfl, by show w.heap.size ≤ (w.heap ++ os).size; simp, fun j hj _ => by show (w.heap ++ os)[j]? = w.heap[j]?; exact Array.getElem?_append_left hj⟩, trivial⟩
theorem fnc_grow {P : Program} {f : FuncId} {args : List Value} {v : Value} {B : List Chunk} (hc : Called P f) (h : ∀ w, Sep w (ownsW []) w B → Calls P f args.toArray w fun e w' => e = .returned v ∧ ∃ k os, w' = Go.Sort.grow (w.drewN k) os) :
  FnC (α := Unit) P f args [] B (fun _ => v) (fun _ => []) (fun _ => True) :=
 ⟨hc, fun w hw => (h w hw.sep).mono fun e w' ⟨he, k, os, hw'⟩ => ⟨(), he, by subst hw'; exact st_grow, trivial⟩⟩
theorem fnc_same {P : Program} {f : FuncId} {args : List Value} {v : Value} {B : List Chunk} (hc : Called P f) (h : ∀ w, Sep w (ownsW []) w B → Calls P f args.toArray w fun e w' => e = .returned v ∧ w' = w) :
  FnC (α := Unit) P f args [] B (fun _ => v) (fun _ => []) (fun _ => True) :=
 ⟨hc, fun w hw => (h w hw.sep).mono fun e w' ⟨he, hw'⟩ => ⟨(), he, by subst hw'; exact ⟨Base.refl _ _, trivial⟩, trivial⟩⟩
theorem fnc_alloc {P : Program} {f : FuncId} {args : List Value} {e n : Nat} {xs : List Value} {B : List Chunk} (hc : Called P f) (hn : xs.length = n) (hm : n ≤ maxLen)
  (h : ∀ w, Sep w (ownsW []) w B → Calls P f args.toArray w fun ed w' => ed = .returned (.slice (some ⟨w.heap.size, 0, none⟩) n n) ∧ w' = w.alloc (.cells xs.toArray e)) :
  FnC (α := Option Addr) P f args [] B (fun a => .slice a n n) (fun a => [row a n e 1 n xs]) (fun _ => True) :=
 ⟨hc, fun w hw => (h w hw.sep).mono fun ed w' ⟨he, hw'⟩ => ⟨some ⟨w.heap.size, 0, none⟩, he, by
  subst hw'
  refine ⟨⟨rfl, rfl, rfl, by simp, fun k hk _ => heap_alloc_old w _ hk⟩, ⟨?_, ?_, fun d hd => by (cases hd), trivial⟩⟩
  ·exact ⟨by omega, .inr ⟨w.heap.size, n, xs.toArray, rfl, Nat.zero_le _, heap_alloc_new w _, Nat.le_refl _, hm, by simp [hn], by simp [← hn]⟩⟩
  ·intro k hk
   have hk' : (Value.slice (some ⟨w.heap.size, 0, none⟩) n n).ownBlock = some k := hk
   simp only [Value.ownBlock, Option.some.injEq] at hk'
   subst hk'
   exact ⟨by simp, fun _ => .inr (Nat.le_refl _)⟩, trivial⟩⟩
end Go.Proofs.YtkolmklfgbimoaaGreatDoor

/- Texts of the proof, in their order: Rr, Dt1, Is1, Sq1, Sq2, Sq3, Sq4, Sq5, Sq6, Sq7, Sq8, Sm1, Be1, cSn1, cSn2, cSn3, cSn4, cSn5, cSn6, cSp1, cSn7, cSn8. -/
import Derived.Test.YtkolmklfgbimoaaGreatDoorM2
set_option linter.unusedVariables false
set_option linter.unusedSimpArgs false
set_option maxHeartbeats 16000000
set_option maxRecDepth 100000
namespace Go.Proofs.YtkolmklfgbimoaaGreatDoor
open Go Go.Sx Go.Sx.Chunk
section
set_option maxRecDepth 512
structure Hold (Q:Prop):Prop where
 out:Q
theorem wa_skipQ {P:Program} {l:List Oper} {w0:World} {M:Nat→Prop} {H Hk:List Chunk} {n:Cx} {Q:Exit→Act→World→Prop} {S:World→Prop} {ls ord:List Nat} {E:Env} {fuel i d:Nat} {listed:Array Bool} {oi:Oper} (hi:nthO l i=some oi) (hg:guardNo l E oi.guard=true) (hd:oi.dst=some d) (hn:Nat.blt d n.m=true) (_hq:quietOp oi.op=true) (hc:chk l.toArray listed i=true)
  (h:WS w0 M H Hk (XO P l n Q S ls ((d,undef)::E) ord fuel (listed.setIfInBounds i true))):WS w0 M H Hk (XO P l n Q S ls E (i::ord) (fuel+1) listed):=wa_skip hi hg hd hn hc h
theorem xLd {Q:Prop} (h:Q:=by (first | (first | (apply ld_b T;exact rfl;(repeat (first | exact find_here | apply find_there));(first | exact rfl | assumption);exact rfl;exact rfl) | (apply ld_bs T;exact rfl;(repeat (first | exact find_here | apply find_there));exact rfl;exact rfl;exact rfl) | (apply ld_r T;exact rfl;(repeat (first | exact find_here | apply find_there));exact rfl;exact rfl;(first | assumption | exact rfl)) | (apply ld_rs T;exact rfl;(repeat (first | exact find_here | apply find_there));exact rfl;exact rfl;assumption;(first | omega | (dsimp only;omega))) | (apply ld_gA T;exact rfl;exact rfl;(focus ((repeat (first | exact find_here | apply find_there));done));exact rfl;exact rfl;(first | assumption | exact rfl)) | (apply ld_gA T;exact rfl;exact add_add _ _ _;(focus ((repeat (first | exact find_here | apply find_there));done));exact rfl;exact rfl;(first | assumption | exact rfl)) | (apply ld_gA T;exact rfl;exact (addr_add _ _ _).symm;(focus ((repeat (first | exact find_here | apply find_there));done));exact rfl;exact rfl;(first | assumption | exact rfl)) | (apply ld_gA T;exact rfl;exact (addr_zero _).symm;(focus ((repeat (first | exact find_here | apply find_there));done));exact rfl;exact rfl;(first | assumption | exact rfl)) | (apply ld_gsA T;exact rfl;exact rfl;(focus ((repeat (first | exact find_here | apply find_there));done));exact rfl;exact rfl;(first | assumption | exact rfl);(first | omega | (dsimp only;omega) | exact Nat.le_of_ble_eq_true rfl)) | (apply ld_gsA T;exact rfl;exact add_add _ _ _;(focus ((repeat (first | exact find_here | apply find_there));done));exact rfl;exact rfl;(first | assumption | exact rfl);(first | omega | (dsimp only;omega) | exact Nat.le_of_ble_eq_true rfl)) | (apply ld_gsA T;exact rfl;exact (addr_add _ _ _).symm;(focus ((repeat (first | exact find_here | apply find_there));done));exact rfl;exact rfl;(first | assumption | exact rfl);(first | omega | (dsimp only;omega) | exact Nat.le_of_ble_eq_true rfl)) | (apply ld_gsA T;exact rfl;exact (addr_zero _).symm;(focus ((repeat (first | exact find_here | apply find_there));done));exact rfl;exact rfl;(first | assumption | exact rfl);(first | omega | (dsimp only;omega) | exact Nat.le_of_ble_eq_true rfl)) | (apply ld_f T;exact rfl;(repeat (first | exact find_here | apply find_there));exact rfl;exact rfl;assumption) | (apply ld_map T keyS;exact rfl;exact rfl;(repeat (first | exact find_here | apply find_there));exact rfl;exact rfl;exact rfl;exact rfl;exact rfl;exact rfl;kernel_rfl) | (apply ld_map T (keyI .i64);exact rfl;exact rfl;(repeat (first | exact find_here | apply find_there));exact rfl;exact rfl;exact rfl;exact rfl;exact rfl;exact rfl;kernel_rfl) | (apply ld_strf T;exact rfl;(repeat (first | exact find_here | apply find_there));exact rfl;exact rfl;exact rfl;exact rfl;exact rfl;exact rfl;(first | assumption | exact rfl);(first | exact rfl | assumption | omega)) | (apply ld_strr T;exact rfl;(repeat (first | exact find_here | apply find_there));exact rfl;exact rfl;exact rfl;exact rfl;exact rfl;exact rfl;(first | assumption | exact rfl);(first | exact rfl | assumption | omega)) | (apply ld_strb T;exact rfl;(repeat (first | exact find_here | apply find_there));exact rfl;exact rfl;exact rfl;exact rfl;exact rfl;exact rfl;(first | assumption | exact rfl);(first | exact rfl | assumption | omega))) | (apply ld_oG T;exact rfl;exact rfl;(focus ((repeat (first | exact find_here | apply find_there));done));exact rfl;exact rfl;(first | assumption | exact rfl)) | (apply ld_oG T;exact rfl;exact add_add _ _ _;(focus ((repeat (first | exact find_here | apply find_there));done));exact rfl;exact rfl;(first | assumption | exact rfl)) | (apply ld_oG T;exact rfl;exact (addr_add _ _ _).symm;(focus ((repeat (first | exact find_here | apply find_there));done));exact rfl;exact rfl;(first | assumption | exact rfl)) | (apply ld_oG T;exact rfl;exact (addr_zero _).symm;(focus ((repeat (first | exact find_here | apply find_there));done));exact rfl;exact rfl;(first | assumption | exact rfl)) | (apply ld_oGs T;exact rfl;exact rfl;(focus ((repeat (first | exact find_here | apply find_there));done));exact rfl;exact rfl;(first | assumption | exact rfl);(first | omega | (dsimp only;omega) | exact Nat.le_of_ble_eq_true rfl)) | (apply ld_oGs T;exact rfl;exact add_add _ _ _;(focus ((repeat (first | exact find_here | apply find_there));done));exact rfl;exact rfl;(first | assumption | exact rfl);(first | omega | (dsimp only;omega) | exact Nat.le_of_ble_eq_true rfl)) | (apply ld_oGs T;exact rfl;exact (addr_add _ _ _).symm;(focus ((repeat (first | exact find_here | apply find_there));done));exact rfl;exact rfl;(first | assumption | exact rfl);(first | omega | (dsimp only;omega) | exact Nat.le_of_ble_eq_true rfl)) | (apply ld_oGs T;exact rfl;exact (addr_zero _).symm;(focus ((repeat (first | exact find_here | apply find_there));done));exact rfl;exact rfl;(first | assumption | exact rfl);(first | omega | (dsimp only;omega) | exact Nat.le_of_ble_eq_true rfl)) | (apply ld_oR T;exact rfl;exact rfl;(focus ((repeat (first | exact find_here | apply find_there));done));exact rfl;exact rfl;(first | assumption | exact rfl)) | (apply ld_oR T;exact rfl;exact add_add _ _ _;(focus ((repeat (first | exact find_here | apply find_there));done));exact rfl;exact rfl;(first | assumption | exact rfl)) | (apply ld_oR T;exact rfl;exact (addr_add _ _ _).symm;(focus ((repeat (first | exact find_here | apply find_there));done));exact rfl;exact rfl;(first | assumption | exact rfl)) | (apply ld_oR T;exact rfl;exact (addr_zero _).symm;(focus ((repeat (first | exact find_here | apply find_there));done));exact rfl;exact rfl;(first | assumption | exact rfl)) | (apply ld_oRs T;exact rfl;exact rfl;(focus ((repeat (first | exact find_here | apply find_there));done));exact rfl;exact rfl;(first | assumption | exact rfl);(first | omega | (dsimp only;omega) | exact Nat.le_of_ble_eq_true rfl)) | (apply ld_oRs T;exact rfl;exact add_add _ _ _;(focus ((repeat (first | exact find_here | apply find_there));done));exact rfl;exact rfl;(first | assumption | exact rfl);(first | omega | (dsimp only;omega) | exact Nat.le_of_ble_eq_true rfl)) | (apply ld_oRs T;exact rfl;exact (addr_add _ _ _).symm;(focus ((repeat (first | exact find_here | apply find_there));done));exact rfl;exact rfl;(first | assumption | exact rfl);(first | omega | (dsimp only;omega) | exact Nat.le_of_ble_eq_true rfl)) | (apply ld_oRs T;exact rfl;exact (addr_zero _).symm;(focus ((repeat (first | exact find_here | apply find_there));done));exact rfl;exact rfl;(first | assumption | exact rfl);(first | omega | (dsimp only;omega) | exact Nat.le_of_ble_eq_true rfl)))):Q:=h
theorem xLm {Q:Prop} (h:Q:=by (first | (apply ld_map T keyS;exact rfl;exact rfl;(repeat (first | exact find_here | apply find_there));exact rfl;exact rfl;exact rfl;exact rfl;exact rfl;exact rfl;kernel_rfl) | (apply ld_map T (keyI .i64);exact rfl;exact rfl;(repeat (first | exact find_here | apply find_there));exact rfl;exact rfl;exact rfl;exact rfl;exact rfl;exact rfl;kernel_rfl))):Q:=h
theorem xGv {Q:Prop} (h:Q:=by (first | (apply g_conv T;exact rfl;exact rfl;exact rfl;exact rfl;(first | exact inK_i64 (by omega) (by omega) | exact inK_i32 (by omega) (by omega) | exact inK_u8 (by omega) (by omega) | exact inK_u64 (by omega) (by omega))) | (apply g_pure T;exact rfl) | (apply g_arith;exact rfl;exact rfl;exact rfl;(first | exact inK_i64 (by omega) (by omega) | exact inK_i32 (by omega) (by omega) | exact inK_u8 (by omega) (by omega) | exact inK_u64 (by omega) (by omega))) | (apply g_indexAddr T;exact rfl;exact rfl;exact rfl;exact rfl;exact rfl;(first | omega | decide | (simp only [Go.Sx.size_mk,List.length_cons,List.length_nil,ByteArray.size_append];omega) | (simp <;> omega));(first | omega | decide | (simp only [Go.Sx.size_mk,List.length_cons,List.length_nil,ByteArray.size_append];omega) | (simp <;> omega))) | (apply g_slice0 T;exact rfl;exact rfl;exact rfl;exact rfl;exact rfl;(first | omega | decide | (simp only [Go.Sx.size_mk,List.length_cons,List.length_nil,ByteArray.size_append];omega) | (simp <;> omega));(first | omega | decide | (simp only [Go.Sx.size_mk,List.length_cons,List.length_nil,ByteArray.size_append];omega) | (simp <;> omega))) | (apply g_strAB T;exact rfl;exact rfl;exact rfl;exact rfl;exact rfl;(first | omega | decide | (simp only [Go.Sx.size_mk,List.length_cons,List.length_nil,ByteArray.size_append];omega) | (simp <;> omega));(first | omega | decide | (simp only [Go.Sx.size_mk,List.length_cons,List.length_nil,ByteArray.size_append];omega) | (simp <;> omega));(first | omega | decide | (simp only [Go.Sx.size_mk,List.length_cons,List.length_nil,ByteArray.size_append];omega) | (simp <;> omega))) | (apply g_strA T;exact rfl;exact rfl;exact rfl;exact rfl;(first | omega | decide | (simp only [Go.Sx.size_mk,List.length_cons,List.length_nil,ByteArray.size_append];omega) | (simp <;> omega));(first | omega | decide | (simp only [Go.Sx.size_mk,List.length_cons,List.length_nil,ByteArray.size_append];omega) | (simp <;> omega))) | (apply g_strB T;exact rfl;exact rfl;exact rfl;exact rfl;(first | omega | decide | (simp only [Go.Sx.size_mk,List.length_cons,List.length_nil,ByteArray.size_append];omega) | (simp <;> omega));(first | omega | decide | (simp only [Go.Sx.size_mk,List.length_cons,List.length_nil,ByteArray.size_append];omega) | (simp <;> omega))) | (apply g_sliceS T;exact rfl;exact rfl;exact rfl;exact rfl;exact rfl;(first | omega | decide | (simp only [Go.Sx.size_mk,List.length_cons,List.length_nil,ByteArray.size_append];omega) | (simp <;> omega));(first | omega | decide | (simp only [Go.Sx.size_mk,List.length_cons,List.length_nil,ByteArray.size_append];omega) | (simp <;> omega));(first | omega | decide | (simp only [Go.Sx.size_mk,List.length_cons,List.length_nil,ByteArray.size_append];omega) | (simp <;> omega))) | (apply g_slice T;exact rfl;exact rfl;exact rfl;exact rfl;exact rfl;exact rfl;(first | omega | decide | (simp only [Go.Sx.size_mk,List.length_cons,List.length_nil,ByteArray.size_append];omega) | (simp <;> omega));(first | omega | decide | (simp only [Go.Sx.size_mk,List.length_cons,List.length_nil,ByteArray.size_append];omega) | (simp <;> omega));(first | omega | decide | (simp only [Go.Sx.size_mk,List.length_cons,List.length_nil,ByteArray.size_append];omega) | (simp <;> omega))) | (apply g_index T;exact rfl;exact rfl;exact rfl;exact rfl;omega;assumption) | (apply g_indexAddrA T;exact rfl;exact rfl;exact rfl;exact rfl;exact rfl;omega;omega) | (apply g_indexAddrG T;exact rfl;exact rfl;exact rfl;exact rfl;exact rfl;omega;omega) | (apply g_fieldAddrG T;exact rfl;exact rfl;exact rfl;exact rfl;exact rfl;exact rfl) | (apply g_eq T;exact rfl;exact rfl;exact rfl;exact rfl) | (apply g_neq T;exact rfl;exact rfl;exact rfl;exact rfl) | (apply g_neqP T;exact rfl;exact rfl;exact rfl;exact rfl;exact rfl) | (apply g_eqN T;exact rfl;exact rfl;exact rfl) | (apply g_neqN T;exact rfl;exact rfl;exact rfl) | (apply g_eqS T;exact rfl;exact rfl;exact rfl;kernel_rfl;kernel_rfl;kernel_rfl) | (apply g_neqS T;exact rfl;exact rfl;exact rfl;kernel_rfl;kernel_rfl;kernel_rfl) | (apply g_max;exact rfl;exact rfl) | (apply g_min;exact rfl;exact rfl) | (apply g_divN;exact rfl;exact rfl;exact rfl;exact rfl;omega;(first | exact inK_i64 (by omega) (by omega) | exact inK_i32 (by omega) (by omega) | exact inK_u8 (by omega) (by omega) | exact inK_u64 (by omega) (by omega))) | (apply g_modN;exact rfl;exact rfl;exact rfl;exact rfl;omega) | (apply g_div;exact rfl;exact rfl;exact rfl;(first | assumption | decide)) | (apply g_mod;exact rfl;exact rfl;exact rfl;(first | assumption | decide)) | (apply g_build T;exact rfl;exact rfl;exact rfl;exact rfl;exact rfl) | (apply g_shl;exact rfl;exact rfl;exact rfl;omega) | (apply g_shr;exact rfl;exact rfl;exact rfl;omega) | (apply g_concat;exact rfl;exact rfl;(first | omega | (simp only [Go.Sx.size_mk,List.length_cons,List.length_nil,ByteArray.size_append];omega) | (simp;omega))) | (apply g_neg;exact rfl;(first | exact inK_i64 (by omega) (by omega) | exact inK_i32 (by omega) (by omega) | exact inK_u8 (by omega) (by omega) | exact inK_u64 (by omega) (by omega))) | (apply g_wrap;exact rfl;exact rfl;exact rfl) | (apply g_neg_wrap;exact rfl) | (apply g_strnil T;exact rfl;exact rfl;exact rfl;exact rfl;exact rfl;exact rfl;exact rfl) | (apply g_convW T;exact rfl;exact rfl;exact rfl;exact rfl) | (apply g_bits;exact rfl;exact rfl;exact rfl) | (apply g_mapnil T keyS;exact rfl;exact rfl;exact rfl;exact rfl;exact rfl;exact rfl;exact rfl;exact rfl;kernel_rfl) | (apply g_mapnil T (keyI .i64);exact rfl;exact rfl;exact rfl;exact rfl;exact rfl;exact rfl;exact rfl;exact rfl;kernel_rfl))):Q:=h
theorem xGn {Q:Prop} (h:Q:=by (first | (apply g_conv T;exact rfl;exact rfl;exact rfl;exact rfl;(first | exact inK_i64 (by omega) (by omega) | exact inK_i32 (by omega) (by omega) | exact inK_u8 (by omega) (by omega) | exact inK_u64 (by omega) (by omega))) | (apply g_pure T;exact rfl) | (apply g_arith;exact rfl;exact rfl;exact rfl;(first | exact inK_i64 (by omega) (by omega) | exact inK_i32 (by omega) (by omega) | exact inK_u8 (by omega) (by omega) | exact inK_u64 (by omega) (by omega))) | (apply g_indexAddr T;exact rfl;exact rfl;exact rfl;exact rfl;exact rfl;(first | omega | decide | (simp only [Go.Sx.size_mk,List.length_cons,List.length_nil,ByteArray.size_append];omega) | (simp <;> omega));(first | omega | decide | (simp only [Go.Sx.size_mk,List.length_cons,List.length_nil,ByteArray.size_append];omega) | (simp <;> omega))) | (apply g_slice0 T;exact rfl;exact rfl;exact rfl;exact rfl;exact rfl;(first | omega | decide | (simp only [Go.Sx.size_mk,List.length_cons,List.length_nil,ByteArray.size_append];omega) | (simp <;> omega));(first | omega | decide | (simp only [Go.Sx.size_mk,List.length_cons,List.length_nil,ByteArray.size_append];omega) | (simp <;> omega))) | (apply g_strAB T;exact rfl;exact rfl;exact rfl;exact rfl;exact rfl;(first | omega | decide | (simp only [Go.Sx.size_mk,List.length_cons,List.length_nil,ByteArray.size_append];omega) | (simp <;> omega));(first | omega | decide | (simp only [Go.Sx.size_mk,List.length_cons,List.length_nil,ByteArray.size_append];omega) | (simp <;> omega));(first | omega | decide | (simp only [Go.Sx.size_mk,List.length_cons,List.length_nil,ByteArray.size_append];omega) | (simp <;> omega))) | (apply g_strA T;exact rfl;exact rfl;exact rfl;exact rfl;(first | omega | decide | (simp only [Go.Sx.size_mk,List.length_cons,List.length_nil,ByteArray.size_append];omega) | (simp <;> omega));(first | omega | decide | (simp only [Go.Sx.size_mk,List.length_cons,List.length_nil,ByteArray.size_append];omega) | (simp <;> omega))) | (apply g_strB T;exact rfl;exact rfl;exact rfl;exact rfl;(first | omega | decide | (simp only [Go.Sx.size_mk,List.length_cons,List.length_nil,ByteArray.size_append];omega) | (simp <;> omega));(first | omega | decide | (simp only [Go.Sx.size_mk,List.length_cons,List.length_nil,ByteArray.size_append];omega) | (simp <;> omega))) | (apply g_sliceS T;exact rfl;exact rfl;exact rfl;exact rfl;exact rfl;(first | omega | decide | (simp only [Go.Sx.size_mk,List.length_cons,List.length_nil,ByteArray.size_append];omega) | (simp <;> omega));(first | omega | decide | (simp only [Go.Sx.size_mk,List.length_cons,List.length_nil,ByteArray.size_append];omega) | (simp <;> omega));(first | omega | decide | (simp only [Go.Sx.size_mk,List.length_cons,List.length_nil,ByteArray.size_append];omega) | (simp <;> omega))) | (apply g_slice T;exact rfl;exact rfl;exact rfl;exact rfl;exact rfl;exact rfl;(first | omega | decide | (simp only [Go.Sx.size_mk,List.length_cons,List.length_nil,ByteArray.size_append];omega) | (simp <;> omega));(first | omega | decide | (simp only [Go.Sx.size_mk,List.length_cons,List.length_nil,ByteArray.size_append];omega) | (simp <;> omega));(first | omega | decide | (simp only [Go.Sx.size_mk,List.length_cons,List.length_nil,ByteArray.size_append];omega) | (simp <;> omega))) | (apply g_index T;exact rfl;exact rfl;exact rfl;exact rfl;omega;assumption) | (apply g_indexAddrA T;exact rfl;exact rfl;exact rfl;exact rfl;exact rfl;omega;omega) | (apply g_indexAddrG T;exact rfl;exact rfl;exact rfl;exact rfl;exact rfl;omega;omega) | (apply g_fieldAddrG T;exact rfl;exact rfl;exact rfl;exact rfl;exact rfl;exact rfl) | (apply g_eq T;exact rfl;exact rfl;exact rfl;exact rfl) | (apply g_neq T;exact rfl;exact rfl;exact rfl;exact rfl) | (apply g_neqP T;exact rfl;exact rfl;exact rfl;exact rfl;exact rfl) | (apply g_eqN T;exact rfl;exact rfl;exact rfl) | (apply g_neqN T;exact rfl;exact rfl;exact rfl) | (apply g_eqS T;exact rfl;exact rfl;exact rfl;kernel_rfl;kernel_rfl;kernel_rfl) | (apply g_neqS T;exact rfl;exact rfl;exact rfl;kernel_rfl;kernel_rfl;kernel_rfl) | (apply g_divN;exact rfl;exact rfl;exact rfl;exact rfl;omega;(first | exact inK_i64 (by omega) (by omega) | exact inK_i32 (by omega) (by omega) | exact inK_u8 (by omega) (by omega) | exact inK_u64 (by omega) (by omega))) | (apply g_modN;exact rfl;exact rfl;exact rfl;exact rfl;omega) | (apply g_div;exact rfl;exact rfl;exact rfl;(first | assumption | decide)) | (apply g_mod;exact rfl;exact rfl;exact rfl;(first | assumption | decide)) | (apply g_build T;exact rfl;exact rfl;exact rfl;exact rfl;exact rfl) | (apply g_shl;exact rfl;exact rfl;exact rfl;omega) | (apply g_shr;exact rfl;exact rfl;exact rfl;omega) | (apply g_concat;exact rfl;exact rfl;(first | omega | (simp only [Go.Sx.size_mk,List.length_cons,List.length_nil,ByteArray.size_append];omega) | (simp;omega))) | (apply g_neg;exact rfl;(first | exact inK_i64 (by omega) (by omega) | exact inK_i32 (by omega) (by omega) | exact inK_u8 (by omega) (by omega) | exact inK_u64 (by omega) (by omega))) | (apply g_wrap;exact rfl;exact rfl;exact rfl) | (apply g_neg_wrap;exact rfl) | (apply g_strnil T;exact rfl;exact rfl;exact rfl;exact rfl;exact rfl;exact rfl;exact rfl) | (apply g_convW T;exact rfl;exact rfl;exact rfl;exact rfl) | (apply g_bits;exact rfl;exact rfl;exact rfl) | (apply g_mapnil T keyS;exact rfl;exact rfl;exact rfl;exact rfl;exact rfl;exact rfl;exact rfl;exact rfl;kernel_rfl) | (apply g_mapnil T (keyI .i64);exact rfl;exact rfl;exact rfl;exact rfl;exact rfl;exact rfl;exact rfl;exact rfl;kernel_rfl))):Q:=h
theorem xSt {Q:Prop} (h:Q:=by (first | (apply eff_store T;exact rfl;(repeat (first | exact pick_here | apply pick_there));exact rfl;exact rfl;exact rfl;(first | exact rfl | exact setsO_one (by first | assumption | (simp;omega)));exact rfl;exact rfl;(first | exact List.cons_ne_nil _ _ | exact (by simp))) | (apply eff_storef T;exact rfl;(repeat (first | exact pick_here | apply pick_there));exact rfl;exact rfl;exact rfl;exact rfl;exact rfl;(first | omega | assumption)) | (apply eff_store_r T;exact rfl;(repeat (first | exact pick_here | apply pick_there));exact rfl;exact rfl;exact rfl;exact rfl;exact rfl;(first | omega | (dsimp only;omega))) | (apply eff_store_rs T;exact rfl;(repeat (first | exact pick_here | apply pick_there));exact rfl;exact rfl;exact rfl;exact rfl;exact rfl;(first | omega | (dsimp only;omega) | (simp <;> omega))) | (apply eff_store_oR T;exact rfl;exact rfl;(repeat (first | exact pick_here | apply pick_there));exact rfl;exact rfl;exact rfl;exact rfl;exact rfl;(first | omega | (dsimp only;omega))) | (apply eff_store_oR T;exact rfl;exact add_add _ _ _;(repeat (first | exact pick_here | apply pick_there));exact rfl;exact rfl;exact rfl;exact rfl;exact rfl;(first | omega | (dsimp only;omega))) | (apply eff_store_oR T;exact rfl;exact (addr_add _ _ _).symm;(repeat (first | exact pick_here | apply pick_there));exact rfl;exact rfl;exact rfl;exact rfl;exact rfl;(first | omega | (dsimp only;omega))) | (apply eff_store_oR T;exact rfl;exact (addr_zero _).symm;(repeat (first | exact pick_here | apply pick_there));exact rfl;exact rfl;exact rfl;exact rfl;exact rfl;(first | omega | (dsimp only;omega))) | (apply eff_store_oRs T;exact rfl;exact rfl;(repeat (first | exact pick_here | apply pick_there));exact rfl;exact rfl;exact rfl;exact rfl;exact rfl;exact rfl;(first | omega | (dsimp only;omega) | (simp <;> omega))) | (apply eff_store_oRs T;exact rfl;exact add_add _ _ _;(repeat (first | exact pick_here | apply pick_there));exact rfl;exact rfl;exact rfl;exact rfl;exact rfl;exact rfl;(first | omega | (dsimp only;omega) | (simp <;> omega))) | (apply eff_store_oRs T;exact rfl;exact (addr_add _ _ _).symm;(repeat (first | exact pick_here | apply pick_there));exact rfl;exact rfl;exact rfl;exact rfl;exact rfl;exact rfl;(first | omega | (dsimp only;omega) | (simp <;> omega))) | (apply eff_store_oRs T;exact rfl;exact (addr_zero _).symm;(repeat (first | exact pick_here | apply pick_there));exact rfl;exact rfl;exact rfl;exact rfl;exact rfl;exact rfl;(first | omega | (dsimp only;omega) | (simp <;> omega))) | (apply eff_mapUpdate T keyS;exact rfl;exact rfl;exact rfl;(repeat (first | exact pick_here | apply pick_there));exact rfl;exact rfl;exact rfl;exact rfl) | (apply eff_mapUpdate T (keyI .i64);exact rfl;exact rfl;exact rfl;(repeat (first | exact pick_here | apply pick_there));exact rfl;exact rfl;exact rfl;exact rfl) | (apply eff_insert T keyS;exact rfl;exact rfl;exact rfl;(repeat (first | exact pick_here | apply pick_there));exact rfl;exact rfl;exact rfl;exact rfl) | (apply eff_insert T (keyI .i64);exact rfl;exact rfl;exact rfl;(repeat (first | exact pick_here | apply pick_there));exact rfl;exact rfl;exact rfl;exact rfl) | (apply eff_next;exact rfl;(repeat (first | exact pick_here | apply pick_there));(first | omega | decide | (simp only [Go.Sx.size_mk,List.length_cons,List.length_nil,ByteArray.size_append];omega) | (simp <;> omega));exact rfl) | (apply eff_nextE;exact rfl;(repeat (first | exact pick_here | apply pick_there));(first | omega | decide | (simp only [Go.Sx.size_mk,List.length_cons,List.length_nil,ByteArray.size_append];omega) | (simp <;> omega));exact rfl))):Q:=h
theorem xEf {Q:Prop} (h:Q:=by (first | (apply eff_box;exact rfl;exact rfl;exact rfl) | (apply eff_max;exact rfl;exact rfl;exact rfl) | (apply eff_min;exact rfl;exact rfl;exact rfl) | (apply eff_makeMap;exact rfl) | (apply eff_range T;exact rfl;exact rfl;exact rfl;exact rfl) | (apply eff_alloc T;exact rfl;exact rfl;exact rfl) | (apply eff_buildSlice0 T;exact rfl;exact rfl;exact rfl;exact rfl) | (apply eff_buildSlice T;exact rfl;exact rfl;exact rfl;exact rfl;exact rfl;exact rfl;exact rfl;exact rfl;exact rfl;exact rfl) | (apply eff_bytes T;exact rfl;exact rfl;exact rfl;exact rfl;exact rfl;exact rfl;exact rfl;exact rfl) | (apply eff_makeSlice T;exact rfl;exact rfl;exact rfl;exact rfl;(first | exact rfl | omega);omega;exact rfl;exact rfl) | (apply eff_conv0 T;exact rfl;(repeat (first | exact pick_here | apply pick_there));exact rfl;exact rfl;exact rfl;exact rfl;exact rfl) | (apply eff_appendStr T;exact rfl;exact rfl;(repeat (first | exact pick_here | apply pick_there));exact rfl;exact rfl;exact rfl;exact rfl;exact rfl;exact rfl;(first | omega | (simp <;> omega));kernel_rfl) | (apply eff_appendF T;exact rfl;exact rfl;(repeat (first | exact pick_here | apply pick_there));(repeat (first | exact pick_here | apply pick_there));exact rfl;exact rfl;exact rfl;exact rfl;exact rfl;exact rfl;exact rfl;exact rfl;(first | omega | decide | (simp only [Go.Sx.size_mk,List.length_cons,List.length_nil,ByteArray.size_append];omega) | (simp <;> omega));(first | omega | (dsimp only;omega));(unfold maxLen;omega)) | (apply eff_append T;exact rfl;exact rfl;(repeat (first | exact pick_here | apply pick_there));(repeat (first | exact pick_here | apply pick_there));exact rfl;exact rfl;exact rfl;exact rfl;exact rfl;exact rfl;exact rfl;exact rfl;exact rfl;(first | omega | (dsimp only;omega));(unfold maxLen;omega)) | (apply eff_appendRow T;exact rfl;exact rfl;(repeat (first | exact pick_here | apply pick_there));(repeat (first | exact find_here | apply find_there));exact rfl;exact rfl;exact rfl;exact rfl;exact rfl;exact rfl;exact rfl;omega;assumption;(first | omega | (dsimp only;omega));(unfold maxLen;omega)) | (apply eff_appendRng T;exact rfl;exact rfl;(repeat (first | exact pick_here | apply pick_there));(focus ((repeat (first | exact find_here | apply find_there));done));exact rfl;exact rfl;exact rfl;exact rfl;exact rfl;exact rfl;exact rfl;(first | assumption | omega);assumption;(first | omega | (dsimp only;omega));(unfold maxLen;omega)))):Q:=h
theorem rr {Q G:Prop} (q:Q) (k:Hold Q→G:=by
 intro hdone
 repeat (first
  | (apply w_g;exact xGv;exact rfl)
  | (apply w_idxG T;exact rfl;exact rfl;exact rfl;exact rfl;exact rfl;(focus ((repeat (first | exact find_here | apply find_there));done));(first | omega | decide | (simp only [Go.Sx.size_mk,List.length_cons,List.length_nil,ByteArray.size_append];omega) | (simp <;> omega));(first | omega | decide | (simp only [Go.Sx.size_mk,List.length_cons,List.length_nil,ByteArray.size_append];omega) | (simp <;> omega));(first | omega | (simp <;> omega));exact rfl)
  | (apply w_idxR T;exact rfl;exact rfl;exact rfl;exact rfl;exact rfl;(focus ((repeat (first | exact find_here | apply find_there));done));(first | omega | decide | (simp only [Go.Sx.size_mk,List.length_cons,List.length_nil,ByteArray.size_append];omega) | (simp <;> omega));(first | omega | decide | (simp only [Go.Sx.size_mk,List.length_cons,List.length_nil,ByteArray.size_append];omega) | (simp <;> omega));(first | omega | (simp <;> omega));exact rfl)
  | (apply w_ld;exact xLd;exact rfl)
  | apply w_nil
  | apply w_then
  | apply w_seq
  | (apply w_region;exact rfl)
  | (apply w_eff0;exact xSt)
  | (apply w_eff;exact xEf)
  | (apply w_gyes;exact rfl)
  | (apply w_gno;exact rfl;exact rfl)
  | (apply w_gno0;exact rfl)
  | (apply w_gset true;exact rfl;exact rfl;(first | assumption | (simp only [decide_eq_true_eq,decide_eq_false_iff_not,Bool.not_eq_true,Bool.not_eq_false,beq_iff_eq,beq_eq_false_iff_ne,bne_iff_ne,bne_eq_false_iff_eq,ne_eq,Bool.not_eq_true',Bool.not_eq_false',Classical.not_not];omega) | focus (simp;done)))
  | (apply w_gset false;exact rfl;exact rfl;(first | assumption | (simp only [decide_eq_true_eq,decide_eq_false_iff_not,Bool.not_eq_true,Bool.not_eq_false,beq_iff_eq,beq_eq_false_iff_ne,bne_iff_ne,bne_eq_false_iff_eq,ne_eq,Bool.not_eq_true',Bool.not_eq_false',Classical.not_not];omega) | focus (simp;done)))
  | apply w_ret
  | apply w_block
  | apply w_skip
  | apply w_exit
  | apply w_label
  | (apply w_true;exact rfl)
  | (apply w_false;exact rfl)
  | (apply w_yes;exact rfl;(first | assumption | (simp only [decide_eq_true_eq,decide_eq_false_iff_not,Bool.not_eq_true,Bool.not_eq_false,beq_iff_eq,beq_eq_false_iff_ne,bne_iff_ne,bne_eq_false_iff_eq,ne_eq,Bool.not_eq_true',Bool.not_eq_false',Classical.not_not];omega) | focus (simp;done)))
  | (apply w_no;exact rfl;(first | assumption | (simp only [decide_eq_true_eq,decide_eq_false_iff_not,Bool.not_eq_true,Bool.not_eq_false,beq_iff_eq,beq_eq_false_iff_ne,bne_iff_ne,bne_eq_false_iff_eq,ne_eq,Bool.not_eq_true',Bool.not_eq_false',Classical.not_not];omega) | focus (simp;done)))
  | apply w_thenRet
  | apply w_thenExit
  | apply w_inNormal
  | apply w_inRet
  | apply w_inExit
  | (apply w_inOther;exact rfl)
  | (apply wa_done;kernel_rfl)
  | (apply wa_as true;exact rfl;exact rfl;exact rfl;(fail_if_success exact rfl);(first | assumption | (simp only [decide_eq_true_eq,decide_eq_false_iff_not,Bool.not_eq_true,Bool.not_eq_false,beq_iff_eq,beq_eq_false_iff_ne,bne_iff_ne,bne_eq_false_iff_eq,ne_eq,Bool.not_eq_true',Bool.not_eq_false',Classical.not_not];omega) | focus (simp;done)))
  | (apply wa_as false;exact rfl;exact rfl;exact rfl;(fail_if_success exact rfl);(first | assumption | (simp only [decide_eq_true_eq,decide_eq_false_iff_not,Bool.not_eq_true,Bool.not_eq_false,beq_iff_eq,beq_eq_false_iff_ne,bne_iff_ne,bne_eq_false_iff_eq,ne_eq,Bool.not_eq_true',Bool.not_eq_false',Classical.not_not];omega) | focus (simp;done)))
  | (apply wa_g;exact rfl;exact rfl;exact xGn;exact rfl;kernel_rfl)
  | (apply wa_idxG T;exact rfl;exact rfl;exact rfl;exact rfl;exact rfl;exact rfl;exact rfl;(focus ((repeat (first | exact find_here | apply find_there));done));(first | omega | decide | (simp only [Go.Sx.size_mk,List.length_cons,List.length_nil,ByteArray.size_append];omega) | (simp <;> omega));(first | omega | decide | (simp only [Go.Sx.size_mk,List.length_cons,List.length_nil,ByteArray.size_append];omega) | (simp <;> omega));(first | omega | (simp <;> omega));exact rfl;kernel_rfl)
  | (apply wa_idxR T;exact rfl;exact rfl;exact rfl;exact rfl;exact rfl;exact rfl;exact rfl;(focus ((repeat (first | exact find_here | apply find_there));done));(first | omega | decide | (simp only [Go.Sx.size_mk,List.length_cons,List.length_nil,ByteArray.size_append];omega) | (simp <;> omega));(first | omega | decide | (simp only [Go.Sx.size_mk,List.length_cons,List.length_nil,ByteArray.size_append];omega) | (simp <;> omega));(first | omega | (simp <;> omega));exact rfl;kernel_rfl)
  | (apply wa_lde;exact rfl;kernel_rfl;exact rfl;exact xLm;exact rfl;kernel_rfl)
  | (apply wa_ld;exact rfl;exact rfl;exact xLd;exact rfl;kernel_rfl;exact rfl)
  | (apply wa_skipQ;exact rfl;exact rfl;exact rfl;exact rfl;exact rfl;kernel_rfl)
  | (apply wa_gq;exact rfl;kernel_rfl;exact rfl;exact xGn;exact rfl;kernel_rfl)
  | (apply wa_ldq;exact rfl;kernel_rfl;exact rfl;exact xLd;exact rfl;kernel_rfl)
  | (apply wa_eff0;exact rfl;kernel_rfl;exact rfl;exact xSt;kernel_rfl;(focus ((repeat (first | exact sub_nil | (apply sub_cons;(first | exact find_here | (repeat (first | exact find_here | apply find_there))))));done)))
  | (apply wa_effd0;exact rfl;kernel_rfl;exact rfl;exact xSt;kernel_rfl;kernel_rfl)
  | (apply wa_eff;exact rfl;kernel_rfl;exact rfl;exact xEf;kernel_rfl;(intro _;(focus ((repeat (first | exact sub_nil | (apply sub_cons;(first | exact find_here | (repeat (first | exact find_here | apply find_there))))));done))))
  | (apply wa_effd;exact rfl;kernel_rfl;exact rfl;exact xEf;kernel_rfl;kernel_rfl)
  | (apply wp_ldq;exact rfl;exact rfl;exact xLd;exact rfl;kernel_rfl)
  | (apply wp_eff;exact rfl;exact rfl;exact xEf;kernel_rfl;(intro _;(focus ((repeat (first | exact sub_nil | (apply sub_cons;(first | exact find_here | (repeat (first | exact find_here | apply find_there))))));done))))
  | (apply wa_eskip;exact rfl;kernel_rfl;exact rfl;exact rfl;exact rfl;kernel_rfl))
 exact hdone.out):G:=k ⟨q⟩
theorem rn {Q G:Prop} (q:Q) (k:Hold Q→G:=by
 intro hdone
 repeat (first
  | (apply w_g;exact xGv;exact rfl)
  | (apply w_idxG T;exact rfl;exact rfl;exact rfl;exact rfl;exact rfl;(focus ((repeat (first | exact find_here | apply find_there));done));(first | omega | decide | (simp only [Go.Sx.size_mk,List.length_cons,List.length_nil,ByteArray.size_append];omega) | (simp <;> omega));(first | omega | decide | (simp only [Go.Sx.size_mk,List.length_cons,List.length_nil,ByteArray.size_append];omega) | (simp <;> omega));(first | omega | (simp <;> omega));exact rfl)
  | (apply w_idxR T;exact rfl;exact rfl;exact rfl;exact rfl;exact rfl;(focus ((repeat (first | exact find_here | apply find_there));done));(first | omega | decide | (simp only [Go.Sx.size_mk,List.length_cons,List.length_nil,ByteArray.size_append];omega) | (simp <;> omega));(first | omega | decide | (simp only [Go.Sx.size_mk,List.length_cons,List.length_nil,ByteArray.size_append];omega) | (simp <;> omega));(first | omega | (simp <;> omega));exact rfl)
  | (apply w_ld;exact xLd;exact rfl)
  | apply w_nil
  | apply w_then
  | apply w_seq
  | (apply w_eff0;exact xSt)
  | (apply w_eff;exact xEf)
  | (apply w_gyes;exact rfl)
  | (apply w_gno;exact rfl;exact rfl)
  | (apply w_gno0;exact rfl)
  | (apply w_gset true;exact rfl;exact rfl;(first | assumption | (simp only [decide_eq_true_eq,decide_eq_false_iff_not,Bool.not_eq_true,Bool.not_eq_false,beq_iff_eq,beq_eq_false_iff_ne,bne_iff_ne,bne_eq_false_iff_eq,ne_eq,Bool.not_eq_true',Bool.not_eq_false',Classical.not_not];omega) | focus (simp;done)))
  | (apply w_gset false;exact rfl;exact rfl;(first | assumption | (simp only [decide_eq_true_eq,decide_eq_false_iff_not,Bool.not_eq_true,Bool.not_eq_false,beq_iff_eq,beq_eq_false_iff_ne,bne_iff_ne,bne_eq_false_iff_eq,ne_eq,Bool.not_eq_true',Bool.not_eq_false',Classical.not_not];omega) | focus (simp;done)))
  | apply w_ret
  | apply w_block
  | apply w_skip
  | apply w_exit
  | apply w_label
  | (apply w_true;exact rfl)
  | (apply w_false;exact rfl)
  | (apply w_yes;exact rfl;(first | assumption | (simp only [decide_eq_true_eq,decide_eq_false_iff_not,Bool.not_eq_true,Bool.not_eq_false,beq_iff_eq,beq_eq_false_iff_ne,bne_iff_ne,bne_eq_false_iff_eq,ne_eq,Bool.not_eq_true',Bool.not_eq_false',Classical.not_not];omega) | focus (simp;done)))
  | (apply w_no;exact rfl;(first | assumption | (simp only [decide_eq_true_eq,decide_eq_false_iff_not,Bool.not_eq_true,Bool.not_eq_false,beq_iff_eq,beq_eq_false_iff_ne,bne_iff_ne,bne_eq_false_iff_eq,ne_eq,Bool.not_eq_true',Bool.not_eq_false',Classical.not_not];omega) | focus (simp;done)))
  | apply w_thenRet
  | apply w_thenExit
  | apply w_inNormal
  | apply w_inRet
  | apply w_inExit
  | (apply w_inOther;exact rfl)
  | (apply wa_done;kernel_rfl)
  | (apply wa_as true;exact rfl;exact rfl;exact rfl;(fail_if_success exact rfl);(first | assumption | (simp only [decide_eq_true_eq,decide_eq_false_iff_not,Bool.not_eq_true,Bool.not_eq_false,beq_iff_eq,beq_eq_false_iff_ne,bne_iff_ne,bne_eq_false_iff_eq,ne_eq,Bool.not_eq_true',Bool.not_eq_false',Classical.not_not];omega) | focus (simp;done)))
  | (apply wa_as false;exact rfl;exact rfl;exact rfl;(fail_if_success exact rfl);(first | assumption | (simp only [decide_eq_true_eq,decide_eq_false_iff_not,Bool.not_eq_true,Bool.not_eq_false,beq_iff_eq,beq_eq_false_iff_ne,bne_iff_ne,bne_eq_false_iff_eq,ne_eq,Bool.not_eq_true',Bool.not_eq_false',Classical.not_not];omega) | focus (simp;done)))
  | (apply wa_g;exact rfl;exact rfl;exact xGn;exact rfl;kernel_rfl)
  | (apply wa_idxG T;exact rfl;exact rfl;exact rfl;exact rfl;exact rfl;exact rfl;exact rfl;(focus ((repeat (first | exact find_here | apply find_there));done));(first | omega | decide | (simp only [Go.Sx.size_mk,List.length_cons,List.length_nil,ByteArray.size_append];omega) | (simp <;> omega));(first | omega | decide | (simp only [Go.Sx.size_mk,List.length_cons,List.length_nil,ByteArray.size_append];omega) | (simp <;> omega));(first | omega | (simp <;> omega));exact rfl;kernel_rfl)
  | (apply wa_idxR T;exact rfl;exact rfl;exact rfl;exact rfl;exact rfl;exact rfl;exact rfl;(focus ((repeat (first | exact find_here | apply find_there));done));(first | omega | decide | (simp only [Go.Sx.size_mk,List.length_cons,List.length_nil,ByteArray.size_append];omega) | (simp <;> omega));(first | omega | decide | (simp only [Go.Sx.size_mk,List.length_cons,List.length_nil,ByteArray.size_append];omega) | (simp <;> omega));(first | omega | (simp <;> omega));exact rfl;kernel_rfl)
  | (apply wa_lde;exact rfl;kernel_rfl;exact rfl;exact xLm;exact rfl;kernel_rfl)
  | (apply wa_ld;exact rfl;exact rfl;exact xLd;exact rfl;kernel_rfl;exact rfl)
  | (apply wa_skipQ;exact rfl;exact rfl;exact rfl;exact rfl;exact rfl;kernel_rfl)
  | (apply wa_gq;exact rfl;kernel_rfl;exact rfl;exact xGn;exact rfl;kernel_rfl)
  | (apply wa_ldq;exact rfl;kernel_rfl;exact rfl;exact xLd;exact rfl;kernel_rfl)
  | (apply wa_eff0;exact rfl;kernel_rfl;exact rfl;exact xSt;kernel_rfl;(focus ((repeat (first | exact sub_nil | (apply sub_cons;(first | exact find_here | (repeat (first | exact find_here | apply find_there))))));done)))
  | (apply wa_effd0;exact rfl;kernel_rfl;exact rfl;exact xSt;kernel_rfl;kernel_rfl)
  | (apply wa_eff;exact rfl;kernel_rfl;exact rfl;exact xEf;kernel_rfl;(intro _;(focus ((repeat (first | exact sub_nil | (apply sub_cons;(first | exact find_here | (repeat (first | exact find_here | apply find_there))))));done))))
  | (apply wa_effd;exact rfl;kernel_rfl;exact rfl;exact xEf;kernel_rfl;kernel_rfl)
  | (apply wp_ldq;exact rfl;exact rfl;exact xLd;exact rfl;kernel_rfl)
  | (apply wp_eff;exact rfl;exact rfl;exact xEf;kernel_rfl;(intro _;(focus ((repeat (first | exact sub_nil | (apply sub_cons;(first | exact find_here | (repeat (first | exact find_here | apply find_there))))));done))))
  | (apply wa_eskip;exact rfl;kernel_rfl;exact rfl;exact rfl;exact rfl;kernel_rfl))
 exact hdone.out):G:=k ⟨q⟩
theorem rrs {Q G:Prop} (q:Q) (k:Hold Q→G:=by
 intro hdone;try simp only [Sx.ap1,Sx.ap2,Sx.ap3]
 exact rr hdone.out):G:=k ⟨q⟩
theorem mixed:Tryz.prog.follows .mixedOrders=true:=by kernel_rfl
section
variable {n:Cx} {Q:Exit→Act→World→Prop} {E:Env} {w0:World} {M:Nat→Prop} {H H':List Chunk} {l L:List Oper} {d:Nat} {ty:TypeId} {pos:String} {after:Array Edge} {G:World→Prop}
theorem dr (ord ls places:List Nat) {id:Nat} {Hs:List Chunk} (h:WS w0 M H Hs (XO Tryz.prog l n Q (SC Hs) ls E ord l.toArray.size (Array.replicate l.toArray.size false))) (hd:noDef l=true:=by exact rfl) (hs:nthsC H places=some Hs:=by exact rfl):Wd w0 M H (XC Tryz.prog n Q E (.region id l.toArray true)):=
 w_draw mixed ord ls places hd hs h
theorem ca {α:Type} (is:List Nat) {f:FuncId} {vs:List Value} {A B R:List Chunk} {val:α→Value} {out:α→List Chunk} {Φ:α→Prop} {args:Array Operand} {ts:Array TypeId} (hs:FnC Tryz.prog f vs A B val out Φ)
  (h:∀ z,Φ z→Wd w0 M (out z++R) (XR Tryz.prog l n Q ((d,val z)::E) L)) (ha:E.evs args.toList=some vs:=by exact rfl) (hp:picks is H=some (A,R):=by exact rfl) (hl:LendsAll R B:=by repeat (first | exact trivial | (apply lend_cons;exact rfl;focus ((repeat (first | exact find_here | apply find_there));done)) | (apply lend_row;focus ((repeat (first | exact find_here | apply find_there));done)) | (apply lend_blk;focus ((repeat (first | exact find_here | apply find_there));done)) | apply lend_nil)) (ho:∀ x,allW (out x)=true:=by exact fun _=>rfl) (hn:Nat.blt d n.m=true:=by exact rfl) :
  Wd w0 M H (XR Tryz.prog l n Q E (⟨some d,.call { callee:=.value (.func f),args:=args,argTypes:=ts },ty,pos,after,none⟩::L)):=w_call is hs ha hp hl ho hn h
theorem cav {α:Type} (is:List Nat) {f:FuncId} {vs full:List Value} {first cap:Array Value} {fo:Operand} {A B R:List Chunk} {val:α→Value} {out:α→List Chunk} {Φ:α→Prop} {args:Array Operand} {ts:Array TypeId} (hs:FnC Tryz.prog f full A B val out Φ)
  (h:∀ z,Φ z→Wd w0 M (out z++R) (XR Tryz.prog l n Q ((d,val z)::E) L)) (hf:E.ev fo=some (.func (.func f) first cap):=by exact rfl) (ha:E.evs args.toList=some vs:=by exact rfl) (hfull:first.toList++vs++cap.toList=full:=by exact rfl) (hp:picks is H=some (A,R):=by exact rfl) (hl:LendsAll R B:=by repeat (first | exact trivial | (apply lend_cons;exact rfl;focus ((repeat (first | exact find_here | apply find_there));done)) | (apply lend_row;focus ((repeat (first | exact find_here | apply find_there));done)) | (apply lend_blk;focus ((repeat (first | exact find_here | apply find_there));done)) | apply lend_nil)) (ho:∀ x,allW (out x)=true:=by exact fun _=>rfl) (hn:Nat.blt d n.m=true:=by exact rfl) :
  Wd w0 M H (XR Tryz.prog l n Q E (⟨some d,.call { callee:=.value fo,args:=args,argTypes:=ts },ty,pos,after,none⟩::L)):=w_eff (eff_callv is hs hf ha hfull hp hl ho hn) h
theorem we {α:Type} {A R:List Chunk} {val:α→Value} {out:α→List Chunk} {Φ:α→Prop} {fn:Func} {e:Exit} {rs:List ResultVar} {vs:List Value} (x:α) (is:List Nat) (hx:Φ x) (hds:n.ds=[]:=by exact rfl) (he:e = .ret∨e = .normal:=by first | exact .inl rfl | exact .inr rfl) (hf:fn.results=rs.toArray:=by exact rfl)
  (hr:ResOk Tryz.prog n H E rs vs:=by repeat (first | exact ResOk.nil | (apply ResOk.tmp;exact rfl) | (apply ResOk.cell;exact xLd))) (hv:packR vs=val x:=by exact rfl) (hp:picks is H=some (out x,R):=by exact rfl) :
  Wd w0 (ownsW A) H (XQ n (bodyPost Tryz.prog fn (Ret w0 A val out Φ)) e E):=w_endr x is hds he hf hr hv hp hx
theorem weE {α:Type} {A:List Chunk} {val:α→Value} {out:α→List Chunk} {Φ:α→Prop} {fn:Func} {e:Exit} {rs:List ResultVar} {vs:List Value} (x:α) (hx:Φ x) (hH:H=out x:=by exact rfl) (hds:n.ds=[]:=by exact rfl) (he:e = .ret∨e = .normal:=by first | exact .inl rfl | exact .inr rfl) (hf:fn.results=rs.toArray:=by exact rfl)
  (hr:ResOk Tryz.prog n H E rs vs:=by repeat (first | exact ResOk.nil | (apply ResOk.tmp;exact rfl) | (apply ResOk.cell;exact xLd))) (hv:packR vs=val x:=by exact rfl) :
  Wd w0 (ownsW A) H (XQ n (bodyPost Tryz.prog fn (Ret w0 A val out Φ)) e E):=fun w hw=>
 xq_ret hds he (fun a ha=>res_results hf hr ha hw.sc) ⟨x,by rw [hv],by rw [← hH];exact hw,hx⟩
theorem weM1 {α:Type} {D i:Nat} {H1 A R:List Chunk} {val:α→Value} {out:α→List Chunk} {Φ:α→Prop} {fn:Func} {e:Exit} {rs:List ResultVar} {vs:List Value} (x:α) (is:List Nat) (hx:Φ x) (hds:n.ds=[markD D]:=by exact rfl) (hp0:Sx.pick H i=some (defD D,H1):=by (repeat (first | exact pick_here | apply pick_there))) (he:e = .ret∨e = .normal:=by first | exact .inl rfl | exact .inr rfl) (hf:fn.results=rs.toArray:=by exact rfl)
  (hr:ResOk Tryz.prog n H1 E rs vs:=by repeat (first | exact ResOk.nil | (apply ResOk.tmp;exact rfl) | (apply ResOk.cell;exact xLd))) (hv:packR vs=val x:=by exact rfl) (hp:picks is H1=some (out x,R):=by exact rfl) :
  Wd w0 (ownsW A) H (XQ n (bodyM Tryz.prog fn (Ret w0 A val out Φ)) e E):=w_endM1 x is hds hp0 he hf hr hv hp hx
theorem cad {α:Type} (is:List Nat) {f:FuncId} {vs:List Value} {A B R Hs Hk:List Chunk} {val:α→Value} {out:α→List Chunk} {Φ:α→Prop} {args:Array Operand} {ts:Array TypeId} {ls ord:List Nat} {fuel i:Nat} {listed:Array Bool} {g:Option (Nat×Bool)} (hs:FnC Tryz.prog f vs A B val out Φ)
  (h:∀ z,Φ z→WS w0 M (out z++R) Hs (XO Tryz.prog l n Q (SC Hs) ls ((d,val z)::E) ord fuel (listed.setIfInBounds i true)))
  (hi:nthO l i=some ⟨some d,.call { callee:=.value (.func f),args:=args,argTypes:=ts },ty,pos,after,g⟩:=by exact rfl) (hr:(Region.ready .any l.toArray listed == [i])=true:=by kernel_rfl) (hg:guardYes l E g=true:=by exact rfl)
  (ha:E.evs args.toList=some vs:=by exact rfl) (hp:picks is H=some (A,R):=by exact rfl) (hl:LendsAll R B:=by repeat (first | exact trivial | (apply lend_cons;exact rfl;focus ((repeat (first | exact find_here | apply find_there));done)) | (apply lend_row;focus ((repeat (first | exact find_here | apply find_there));done)) | (apply lend_blk;focus ((repeat (first | exact find_here | apply find_there));done)) | apply lend_nil)) (ho:∀ x,allW (out x)=true:=by exact fun _=>rfl) (hn:Nat.blt d n.m=true:=by exact rfl)
  (hq':quietI l.toArray i=false:=by kernel_rfl) (hk:∀ z,Sub Hs (out z++R):=by intro _;(focus ((repeat (first | exact sub_nil | (apply sub_cons;(first | exact find_here | (repeat (first | exact find_here | apply find_there))))));done))) :
  WS w0 M H Hk (XO Tryz.prog l n Q (SC Hs) ls E (i::ord) (fuel+1) listed):=wa_eff hi hr hg (eff_call is hs ha hp hl ho hn) hq' hk h
theorem cl {α:Type} {f:FuncId} {vs:List Value} {A B R:List Chunk} {val:α→Value} {out:α→List Chunk} {Φ:α→Prop} {args:Array Operand} {ts:Array TypeId} (hs:FnC Tryz.prog f vs A B val out Φ)
  (h:∀ z,Φ z→Wd w0 M (out z++R) (XR Tryz.prog l n Q ((d,val z)::E) L)) (ha:E.evs args.toList=some vs:=by exact rfl) (hp:Has H A R:=by repeat (first | exact Has.nil | (apply Has.cons;focus ((repeat (first | exact pick_here | apply pick_there));done)) | apply Has.nrow | apply Has.gen0)) (hl:LendsAll R B:=by repeat (first | exact trivial | (apply lend_cons;exact rfl;focus ((repeat (first | exact find_here | apply find_there));done)) | (apply lend_row;focus ((repeat (first | exact find_here | apply find_there));done)) | (apply lend_blk;focus ((repeat (first | exact find_here | apply find_there));done)) | apply lend_nil)) (ho:∀ x,allW (out x)=true:=by exact fun _=>rfl) (hn:Nat.blt d n.m=true:=by exact rfl) :
  Wd w0 M H (XR Tryz.prog l n Q E (⟨some d,.call { callee:=.value (.func f),args:=args,argTypes:=ts },ty,pos,after,none⟩::L)):=w_has hp (w_call _ hs ha (picks_zeros A R) hl ho hn h)
theorem clv {α:Type} {f:FuncId} {vs full:List Value} {first cap:Array Value} {fo:Operand} {A B R:List Chunk} {val:α→Value} {out:α→List Chunk} {Φ:α→Prop} {args:Array Operand} {ts:Array TypeId} (hs:FnC Tryz.prog f full A B val out Φ)
  (h:∀ z,Φ z→Wd w0 M (out z++R) (XR Tryz.prog l n Q ((d,val z)::E) L)) (hf:E.ev fo=some (.func (.func f) first cap):=by exact rfl) (ha:E.evs args.toList=some vs:=by exact rfl) (hfull:first.toList++vs++cap.toList=full:=by exact rfl) (hp:Has H A R:=by repeat (first | exact Has.nil | (apply Has.cons;focus ((repeat (first | exact pick_here | apply pick_there));done)) | apply Has.nrow | apply Has.gen0)) (hl:LendsAll R B:=by repeat (first | exact trivial | (apply lend_cons;exact rfl;focus ((repeat (first | exact find_here | apply find_there));done)) | (apply lend_row;focus ((repeat (first | exact find_here | apply find_there));done)) | (apply lend_blk;focus ((repeat (first | exact find_here | apply find_there));done)) | apply lend_nil)) (ho:∀ x,allW (out x)=true:=by exact fun _=>rfl) (hn:Nat.blt d n.m=true:=by exact rfl) :
  Wd w0 M H (XR Tryz.prog l n Q E (⟨some d,.call { callee:=.value fo,args:=args,argTypes:=ts },ty,pos,after,none⟩::L)):=w_has hp (w_eff (eff_callv _ hs hf ha hfull (picks_zeros A R) hl ho hn) h)
theorem en {α:Type} {A R:List Chunk} {val:α→Value} {out:α→List Chunk} {Φ:α→Prop} {fn:Func} {e:Exit} {rs:List ResultVar} {vs:List Value} (x:α) (hx:Φ x) (hds:n.ds=[]:=by exact rfl) (he:e = .ret∨e = .normal:=by first | exact .inl rfl | exact .inr rfl) (hf:fn.results=rs.toArray:=by exact rfl)
  (hr:ResOk Tryz.prog n H E rs vs:=by repeat (first | exact ResOk.nil | (apply ResOk.tmp;exact rfl) | (apply ResOk.cell;exact xLd))) (hv:packR vs=val x:=by exact rfl) (hp:Has H (out x) R:=by repeat (first | exact Has.nil | (apply Has.cons;focus ((repeat (first | exact pick_here | apply pick_there));done)) | apply Has.nrow | apply Has.gen0)) :
  Wd w0 (ownsW A) H (XQ n (bodyPost Tryz.prog fn (Ret w0 A val out Φ)) e E):=fun w hw=>
 xq_ret hds he (fun a ha=>res_results hf hr ha hw.sc) ⟨x,by rw [hv],hw.hasA hp,hx⟩
theorem lo {α:Type} {c:Code} (tmps:List Nat) (cv:α→Env) (hs:α→List (Nat×Chunk)) (φ:α→Prop) (μ:α→Nat) (x0:α) {Er:Env} {Ev:α→Env} {Hv:α→List Chunk}
  (hφ:φ x0)
  (round:∀ x,φ x→∀ K:Act→World→Prop,(∀ y E',φ y→μ y<μ x→EnvSub E' (Ev y)→Wd w0 M (Hv y) (fun w=>∀ a,EnvOk a E' n→K a w))→Wd w0 M (Hv x) (XC Tryz.prog n (Exit.then K Q) (Ev x) c))
  (hr:E.restr tmps=some Er:=by exact rfl) (hEv:∀ x,Env.app (cv x) Er=some (Ev x):=by exact fun _=>rfl) (hHv:∀ x,setCs H (hs x)=some (Hv x):=by exact fun _=>rfl) (hE:EnvSub E (Ev x0):=by repeat (first | exact env_nil | (apply env_cons;exact rfl))) (hH:H=Hv x0:=by exact rfl):Wd w0 M H (XC Tryz.prog n Q E (.loop c)):=
 w_loopC tmps cv hs φ μ x0 hr hEv hHv hE hH hφ round
theorem ro {α:Type} {K:Act→World→Prop} {Ev:α→Env} {Hv:α→List Chunk} {φ:α→Prop} {μ:α→Nat} {x:α} {R:List Chunk} (hK:∀ y E',φ y→μ y<μ x→EnvSub E' (Ev y)→Wd w0 M (Hv y) (fun w=>∀ a,EnvOk a E' n→K a w))
  (y:α) (hφ:φ y) (hμ:μ y<μ x:=by (try dsimp only);omega) (hp:Has H (Hv y) R:=by repeat (first | exact Has.nil | (apply Has.cons;focus ((repeat (first | exact pick_here | apply pick_there));done)) | apply Has.nrow | apply Has.gen0)) (hE:EnvSub E (Ev y):=by repeat (first | exact env_nil | (apply env_cons;exact rfl))):Wd w0 M H (XQ n (Exit.then K Q) .normal E):=w_roundC hK y hφ hμ hp hE
theorem dx (ord ls ex:List Nat) {id:Nat} {Hs:List Chunk} (h:WS w0 M H Hs (XO Tryz.prog l n Q (SC Hs) ls E ord l.toArray.size (Array.replicate l.toArray.size false))) (hd:noDef l=true:=by exact rfl) (hs:dropCs H ex=some Hs:=by exact rfl):Wd w0 M H (XC Tryz.prog n Q E (.region id l.toArray true)):=
 w_drawX mixed ord ls ex hd hs h
theorem wa_has {l:List Oper} {Hk A R:List Chunk} {G:World→Prop} (hp:Has H A R) (h:WS w0 M (A++R) Hk G):WS w0 M H Hk G:=fun w hw hs=>h w (hw.has hp) hs
theorem cld {α:Type} {f:FuncId} {vs:List Value} {A B R Hs Hk:List Chunk} {val:α→Value} {out:α→List Chunk} {Φ:α→Prop} {args:Array Operand} {ts:Array TypeId} {ls ord:List Nat} {fuel i:Nat} {listed:Array Bool} {g:Option (Nat×Bool)} (hs:FnC Tryz.prog f vs A B val out Φ)
  (h:∀ z,Φ z→WS w0 M (out z++R) Hs (XO Tryz.prog l n Q (SC Hs) ls ((d,val z)::E) ord fuel (listed.setIfInBounds i true)))
  (hi:nthO l i=some ⟨some d,.call { callee:=.value (.func f),args:=args,argTypes:=ts },ty,pos,after,g⟩:=by exact rfl) (hr:(Region.ready .any l.toArray listed == [i])=true:=by kernel_rfl) (hg:guardYes l E g=true:=by exact rfl)
  (ha:E.evs args.toList=some vs:=by exact rfl) (hp:Has H A R:=by repeat (first | exact Has.nil | (apply Has.cons;focus ((repeat (first | exact pick_here | apply pick_there));done)) | apply Has.nrow | apply Has.gen0)) (hl:LendsAll R B:=by repeat (first | exact trivial | (apply lend_cons;exact rfl;focus ((repeat (first | exact find_here | apply find_there));done)) | (apply lend_row;focus ((repeat (first | exact find_here | apply find_there));done)) | (apply lend_blk;focus ((repeat (first | exact find_here | apply find_there));done)) | apply lend_nil)) (ho:∀ x,allW (out x)=true:=by exact fun _=>rfl) (hn:Nat.blt d n.m=true:=by exact rfl)
  (hq':quietI l.toArray i=false:=by kernel_rfl) (hk:∀ z,Sub Hs (out z++R):=by intro _;(focus ((repeat (first | exact sub_nil | (apply sub_cons;(first | exact find_here | (repeat (first | exact find_here | apply find_there))))));done))) :
  WS w0 M H Hk (XO Tryz.prog l n Q (SC Hs) ls E (i::ord) (fuel+1) listed):=wa_has (l:=l) hp (wa_eff hi hr hg (eff_call _ hs ha (picks_zeros A R) hl ho hn) hq' hk h)
theorem cle {α:Type} {f:FuncId} {vs:List Value} {A B R Hk:List Chunk} {val:α→Value} {out:α→List Chunk} {Φ:α→Prop} {args:Array Operand} {ts:Array TypeId} {S:World→Prop} {ls ord:List Nat} {fuel i:Nat} {listed:Array Bool} {g:Option (Nat×Bool)} (hs:FnC Tryz.prog f vs A B val out Φ)
  (h:∀ z,Φ z→WS w0 M (out z++R) [] (XO Tryz.prog l n Q S ls ((d,val z)::E) ord fuel (listed.setIfInBounds i true)))
  (hi:nthO l i=some ⟨some d,.call { callee:=.value (.func f),args:=args,argTypes:=ts },ty,pos,after,g⟩:=by exact rfl) (hr:(Region.ready .any l.toArray listed == [i])=true:=by kernel_rfl) (hg:guardYes l E g=true:=by exact rfl)
  (ha:E.evs args.toList=some vs:=by exact rfl) (hp:Has H A R:=by repeat (first | exact Has.nil | (apply Has.cons;focus ((repeat (first | exact pick_here | apply pick_there));done)) | apply Has.nrow | apply Has.gen0)) (hl:LendsAll R B:=by repeat (first | exact trivial | (apply lend_cons;exact rfl;focus ((repeat (first | exact find_here | apply find_there));done)) | (apply lend_row;focus ((repeat (first | exact find_here | apply find_there));done)) | (apply lend_blk;focus ((repeat (first | exact find_here | apply find_there));done)) | apply lend_nil)) (ho:∀ x,allW (out x)=true:=by exact fun _=>rfl) (hn:Nat.blt d n.m=true:=by exact rfl)
  (hq':quietI l.toArray i=false:=by kernel_rfl) (hk:keepS l.toArray ls i=false:=by kernel_rfl) :
  WS w0 M H Hk (XO Tryz.prog l n Q S ls E (i::ord) (fuel+1) listed):=wa_has (l:=l) hp (wa_effd hi hr hg (eff_call _ hs ha (picks_zeros A R) hl ho hn) hq' hk h)
theorem tw {Hk:List Chunk} {ls o:List Nat} {fuel i j:Nat} {listed:Array Bool} {S:World→Prop} (ordi ordj:List Nat) (h1:WS w0 M H Hk (XOP Tryz.prog l n Q S ls E ordi i fuel listed)) (h2:WS w0 M H Hk (XOP Tryz.prog l n Q S ls E ordj j fuel listed)) (hr:(Region.ready .any l.toArray listed == [i,j])=true:=by kernel_rfl) :
  WS w0 M H Hk (XO Tryz.prog l n Q S ls E o (fuel+1) listed):=wa_two ordi ordj hr h1 h2
theorem wp_has {l:List Oper} {Hk A R:List Chunk} {G:World→Prop} (hp:Has H A R) (h:WS w0 M (A++R) Hk G):WS w0 M H Hk G:=fun w hw hs=>h w (hw.has hp) hs
theorem clp {α:Type} {f:FuncId} {vs:List Value} {A B R Hs Hk:List Chunk} {val:α→Value} {out:α→List Chunk} {Φ:α→Prop} {args:Array Operand} {ts:Array TypeId} {ls ord:List Nat} {fuel i:Nat} {listed:Array Bool} {g:Option (Nat×Bool)} (hs:FnC Tryz.prog f vs A B val out Φ)
  (h:∀ z,Φ z→WS w0 M (out z++R) Hs (XO Tryz.prog l n Q (SC Hs) ls ((d,val z)::E) ord fuel (listed.setIfInBounds i true)))
  (hi:nthO l i=some ⟨some d,.call { callee:=.value (.func f),args:=args,argTypes:=ts },ty,pos,after,g⟩:=by exact rfl) (hg:guardYes l E g=true:=by exact rfl)
  (ha:E.evs args.toList=some vs:=by exact rfl) (hp:Has H A R:=by repeat (first | exact Has.nil | (apply Has.cons;focus ((repeat (first | exact pick_here | apply pick_there));done)) | apply Has.nrow | apply Has.gen0)) (hl:LendsAll R B:=by repeat (first | exact trivial | (apply lend_cons;exact rfl;focus ((repeat (first | exact find_here | apply find_there));done)) | (apply lend_row;focus ((repeat (first | exact find_here | apply find_there));done)) | (apply lend_blk;focus ((repeat (first | exact find_here | apply find_there));done)) | apply lend_nil)) (ho:∀ x,allW (out x)=true:=by exact fun _=>rfl) (hn:Nat.blt d n.m=true:=by exact rfl)
  (hq':quietI l.toArray i=false:=by kernel_rfl) (hk:∀ z,Sub Hs (out z++R):=by intro _;(focus ((repeat (first | exact sub_nil | (apply sub_cons;(first | exact find_here | (repeat (first | exact find_here | apply find_there))))));done))) :
  WS w0 M H Hk (XOP Tryz.prog l n Q (SC Hs) ls E ord i fuel listed):=wp_has (l:=l) hp (wp_eff hi hg (eff_call _ hs ha (picks_zeros A R) hl ho hn) hq' hk h)
theorem hv {R:List Chunk} (A:List Chunk) (h:Wd w0 M A G) (hp:Has H A R:=by repeat (first | exact Has.nil | (apply Has.cons;focus ((repeat (first | exact pick_here | apply pick_there));done)) | apply Has.nrow | apply Has.gen0)):Wd w0 M H G:=w_hasA hp h
end
end
structure In where
 mk ::
 (op a b c imm:Int)
deriving DecidableEq
def inV (i:In):List Value:=[.int .i64 i.op,.int .i64 i.a,.int .i64 i.b,.int .i64 i.c,.int .i64 i.imm]
def inG (i:In):Value:=.agg #[.int .i64 i.op,.int .i64 i.a,.int .i64 i.b,.int .i64 i.c,.int .i64 i.imm]
def insC (l:List In):List Value:=l.flatMap inV
structure Sy where
 mk ::
 (name:ByteArray) (pl:Int)
deriving DecidableEq
def syV (s:Sy):List Value:=[.string s.name,.int .i64 s.pl]
def syC (l:List Sy):List Value:=l.flatMap syV
structure Pa where
 mk ::
 (pl kind n:Int)
deriving DecidableEq
def paV (p:Pa):List Value:=[.int .i64 p.pl,.int .i64 p.kind,.int .i64 p.n]
def paC (l:List Pa):List Value:=l.flatMap paV
def paG (p:Pa):Value:=.agg #[.int .i64 p.pl,.int .i64 p.kind,.int .i64 p.n]
def strC (l:List ByteArray):List Value:=l.map Value.string
theorem strC_len (l:List ByteArray):(strC l).length=l.length:=by simp [strC]
theorem strC_at {l:List ByteArray} {i:Nat} {s:ByteArray} (h:l[i]? = some s):(strC l)[i]? = some (.string s):=by simp [strC,h]
theorem insC_len (l:List In):(insC l).length=l.length*5:=flat_len (cells:=inV) (sz:=5) (fun _=>rfl) l
theorem syC_len (l:List Sy):(syC l).length=l.length*2:=flat_len (cells:=syV) (sz:=2) (fun _=>rfl) l
theorem paC_len (l:List Pa):(paC l).length=l.length*3:=flat_len (cells:=paV) (sz:=3) (fun _=>rfl) l
theorem some_at {α:Type} {l:List α} {k:Nat} (h:k<l.length):∃ e,l[k]? = some e:=⟨l[k],by simp [h]⟩
theorem insC_all {l:List In} {k:Nat} {e:In} (h:l[k]? = some e) (n:Nat) (hn:n=k*5):((insC l).drop n).take 5=inV e:=by subst hn;exact flat_get (cells:=inV) (sz:=5) (fun _=>rfl) h
theorem syC_all {l:List Sy} {k:Nat} {e:Sy} (h:l[k]? = some e) (n:Nat) (hn:n=k*2):((syC l).drop n).take 2=syV e:=by subst hn;exact flat_get (cells:=syV) (sz:=2) (fun _=>rfl) h
theorem paC_all {l:List Pa} {k:Nat} {e:Pa} (h:l[k]? = some e) (n:Nat) (hn:n=k*3):((paC l).drop n).take 3=paV e:=by subst hn;exact flat_get (cells:=paV) (sz:=3) (fun _=>rfl) h
theorem insC_at {l:List In} {k:Nat} {e:In} (h:l[k]? = some e) (j:Nat) (hj:j<5) (n:Nat) (hn:n=k*5+j):(insC l)[n]? = (inV e)[j]? := by subst hn;exact flat_at (cells:=inV) (sz:=5) (fun _=>rfl) h hj
def hasA (op:Int):Bool:=decide (1≤op∧op≤16∨op=19)
def hasB (op:Int):Bool:=decide (1≤op∧op≤16∧op≠11)
def hasC (op:Int):Bool:=decide (1≤op∧op≤9)
def hasI (op:Int):Bool:=decide (10≤op∧op≤18∨op=20)
def okO (op:Int):Bool:=decide (0≤op∧op≤20)
def regI (n:Int) (had:Bool):Bool:=decide (n=0) || (had && decide (0<n∧n<32))
def fits16 (n:Int):Bool:=decide (-32768≤n∧n<32768)
def numI (op n:Int):Bool:=if op=17∨op=18 then decide (0≤n∧n≤4096) else if op=20 then decide (0≤n∧n≤2) else if op=14 then decide (0≤n) && fits16 n else fits16 n
def goodI (i:In):Bool:=okO i.op && regI i.a (hasA i.op) && regI i.b (hasB i.op) && regI i.c (hasC i.op) && (decide (i.imm=0) || (hasI i.op && numI i.op i.imm))
theorem ops (op:Int) (h:¬ (op<0∨20<op)):op=0∨op=1∨op=2∨op=3∨op=4∨op=5∨op=6∨op=7∨op=8∨op=9∨op=10∨op=11∨op=12∨op=13∨op=14∨op=15∨op=16∨op=17∨op=18∨op=19∨op=20:=by omega
theorem and_b {p q:Prop} [Decidable p] [Decidable q]:(decide (p∧q))=(decide p && decide q):=by by_cases hp:p <;> by_cases hq:q <;> simp [hp,hq]
theorem fitsC (n:Int):FnC (α:=Unit) Tryz.prog 141 [.int .i64 n,.int .i64 16] [] [] (fun _=>.bool (fits16 n)) (fun _=>[]) (fun _=>True):=by
 refine fn_intro Tryz.func141 Tryz.ntmps141 rfl rfl rfl (fun w0=>?_);refine rrs ?_;have h1:IntKind.i64.wrap (1*2 ^ min ((16:Int)-1).toNat IntKind.i64.bits)=32768:=by decide +kernel
 have h2:IntKind.i64.wrap (-32768) = -32768:=by decide +kernel
 rw [h1,h2];by_cases h : -32768≤n
 ·skip
  refine rr ?_;refine we () [] trivial (hv:=?_);show Value.bool _=_
  unfold fits16;rw [and_b,decide_eq_true h];rfl
 ·skip
  refine rr ?_;refine we () [] trivial (hv:=?_);show Value.bool _=_
  unfold fits16;rw [and_b,decide_eq_false h];rfl
theorem ofC (op:Int):FnC (α:=Unit) Tryz.prog 86 [.int .i64 op] [] [] (fun _=>.tuple #[.agg #[.bool (hasA op),.bool (hasB op),.bool (hasC op),.bool (hasI op)],.bool (okO op)]) (fun _=>[]) (fun _=>True):=by
 refine fn_intro Tryz.func86 Tryz.ntmps86 rfl rfl rfl (fun w0=>?_);try simp only [Sx.ap1,Sx.ap2,Sx.ap3]
 by_cases h:op<0∨20<op
 ·skip
  refine rr ?_;intro b _;refine rr ?_;refine we () [] trivial (hv:=?_);have h1:hasA op=false:=by unfold hasA;simp;omega
  have h2:hasB op=false:=by unfold hasB;simp;omega
  have h3:hasC op=false:=by unfold hasC;simp;omega
  have h4:hasI op=false:=by unfold hasI;simp;omega
  have h5:okO op=false:=by unfold okO;simp;omega
  rw [h1,h2,h3,h4,h5];rfl
 ·rcases ops op h with rfl | rfl | rfl | rfl | rfl | rfl | rfl | rfl | rfl | rfl | rfl | rfl | rfl | rfl | rfl | rfl | rfl | rfl | rfl | rfl | rfl
  all_goals
   refine rr ?_;intro b _;refine rr ?_;refine we () [] trivial (hv:=?_)
   kernel_rfl
theorem regC (n:Int) (had:Bool):FnC (α:=Unit) Tryz.prog 87 [.int .i64 n,.bool had] [] [] (fun _=>.bool (regI n had)) (fun _=>[]) (fun _=>True):=by
 refine fn_intro Tryz.func87 Tryz.ntmps87 rfl rfl rfl (fun w0=>?_);try simp only [Sx.ap1,Sx.ap2,Sx.ap3]
 cases had
 ·by_cases h:n=0
  ·skip
   refine rr ?_;refine we () [] trivial (hv:=?_);show Value.bool _=Value.bool (decide (n=0) || _)
   simp [h]
  ·skip
   refine rr ?_;refine we () [] trivial (hv:=?_);show Value.bool _=Value.bool (decide (n=0) || _)
   simp [h]
 ·by_cases h:n=0
  ·skip
   refine rr ?_;refine we () [] trivial (hv:=?_);show Value.bool _=Value.bool (decide (n=0) || _)
   simp [h]
  ·by_cases h1:0<n
   ·skip
    refine rr ?_;refine we () [] trivial (hv:=?_);show Value.bool _=Value.bool (decide (n=0) || _)
    simp [h,h1]
   ·skip
    refine rr ?_;refine we () [] trivial (hv:=?_);show Value.bool _=Value.bool (decide (n=0) || _)
    simp [h,h1]
theorem numC (op n:Int):FnC (α:=Unit) Tryz.prog 88 [.int .i64 op,.int .i64 n] [] [] (fun _=>.bool (numI op n)) (fun _=>[]) (fun _=>True):=by
 refine fn_intro Tryz.func88 Tryz.ntmps88 rfl rfl rfl (fun w0=>?_);try simp only [Sx.ap1,Sx.ap2,Sx.ap3]
 by_cases h17:op=17∨op=18
 ·have hv:numI op n=(decide (0≤n) && decide (n≤4096)):=by unfold numI;rw [if_pos h17,and_b]
  rcases h17 with rfl | rfl
  all_goals
   by_cases h0:0≤n
   all_goals
    refine rr ?_;refine we () [] trivial (hv:=?_);rw [hv];simp [packR,h0]
 ·by_cases h20:op=20
  ·have hv:numI op n=(decide (0≤n) && decide (n≤2)):=by unfold numI;rw [if_neg h17,if_pos h20,and_b]
   subst h20;by_cases h0:0≤n
   all_goals
    refine rr ?_;refine we () [] trivial (hv:=?_);rw [hv];simp [packR,h0]
  ·by_cases h14:op=14
   ·have hv:numI op n=(decide (0≤n) && fits16 n):=by unfold numI;rw [if_neg h17,if_neg h20,if_pos h14]
    subst h14;by_cases h0:0≤n
    ·skip
     refine rr ?_;refine ca [] (fitsC n) ?_;intro x hx;refine rrs ?_;refine we () [] trivial (hv:=?_);rw [hv];simp [packR,h0]
    ·skip
     refine rr ?_;refine we () [] trivial (hv:=?_);rw [hv];simp [packR,h0]
   ·have hv:numI op n=fits16 n:=by unfold numI;rw [if_neg h17,if_neg h20,if_neg h14]
    refine rr ?_;refine ca [] (fitsC n) ?_;intro x hx;refine rrs ?_;refine we () [] trivial (hv:=?_);rw [hv];rfl
theorem rightIC (i:In):FnC (α:=Unit) Tryz.prog 41 [inG i] [] [] (fun _=>.bool (goodI i)) (fun _=>[]) (fun _=>True):=by
 unfold inG;refine fn_intro Tryz.func41 Tryz.ntmps41 rfl rfl rfl (fun w0=>?_);refine rrs ?_;intro b _;refine rr ?_;refine ca [] (ofC i.op) ?_;intro x hx;refine rrs ?_;intro b1 _;refine rr ?_;unfold goodI;generalize okO i.op=o;generalize hasA i.op=ha;generalize hasB i.op=hb;generalize hasC i.op=hc;generalize hI:hasI i.op=hi;cases o
 ·skip
  refine rr ?_;exact we () [] trivial
 refine rr ?_;refine ca [] (regC i.a ha) ?_;intro x hx;try simp only [Sx.ap1,Sx.ap2,Sx.ap3]
 generalize regI i.a ha=ra;cases ra
 ·skip
  refine rr ?_;exact we () [] trivial
 refine rr ?_;refine ca [] (regC i.b hb) ?_;intro x hx;try simp only [Sx.ap1,Sx.ap2,Sx.ap3]
 generalize regI i.b hb=rb;cases rb
 ·skip
  refine rr ?_;exact we () [] trivial
 refine rr ?_;refine ca [] (regC i.c hc) ?_;intro x hx;try simp only [Sx.ap1,Sx.ap2,Sx.ap3]
 generalize regI i.c hc=rc;cases rc
 ·skip
  refine rr ?_;exact we () [] trivial
 by_cases h0:i.imm=0
 ·skip
  refine rr ?_;refine we () [] trivial (hv:=?_);simp [packR,h0]
 ·have h1:decide (i.imm=0)=false:=decide_eq_false h0;rw [h1];cases hi
  ·skip
   refine rr ?_;exact we () [] trivial
  ·skip
   refine rr ?_;refine ca [] (numC i.op i.imm) ?_;intro x hx;refine rrs ?_;exact we () [] trivial
end Go.Proofs.YtkolmklfgbimoaaGreatDoor
namespace Go.Proofs.YtkolmklfgbimoaaGreatDoor
open Go
def w32 (n:Int):Int:=IntKind.i32.wrap n
structure MS where
 mk ::
 (regs mem:List Int) (pc:Int) (inp out:List Int)
def rgQ (m:MS) (n:Int):Int:=m.regs.getD n.toNat 0
def setQ (n v:Int) (m:MS):MS:=if n=0 then m else { m with regs:=m.regs.set n.toNat (w32 v) }
def truQ (b:Bool):Int:=if b then 1 else 0
def andQ (a b:Int):Int:=IntKind.i64.wrap ((BitVec.ofInt 64 a &&& BitVec.ofInt 64 b).toNat:Int)
def orQ (a b:Int):Int:=IntKind.i64.wrap ((BitVec.ofInt 64 a ||| BitVec.ofInt 64 b).toNat:Int)
def reckQ (i:In) (b c:Int):Option Int:=
 if i.op=1 then some (b+c) else if i.op=2 then some (b-c) else if i.op=3 then some (b*c)
 else if i.op=6 then some (andQ b c) else if i.op=7 then some (orQ b c)
 else if i.op=8 then some (truQ (decide (b<c))) else if i.op=9 then some (truQ (decide (b=c)))
 else if i.op=10 then some (b+i.imm) else if i.op=11 then some (IntKind.i64.wrap (i.imm*65536)) else none
def reckonQ (i:In) (b c:Int):Int×Int×Bool:=
 match reckQ i (w32 b) (w32 c) with
 | some v=>(w32 v,0,true)
 | none=>if i.op=4∨i.op=5 then (if w32 c=0 then (0,4,true) else if i.op=5 then ((w32 b).tmod (w32 c),0,true) else (w32 ((w32 b).tdiv (w32 c)),0,true)) else (0,0,false)
def loadQ (m:MS) (a:Int):Option Int:=if a<0 then none else m.mem[a.toNat]?
def sysQ (n:Int) (m:MS):Int×MS:=
 if n=0 then (1,m)
 else if n=1 then (match m.inp with
  | []=>(6,m)
  | v::r=>(0,{ setQ 4 v m with inp:=r }))
 else if n=2 then (if 10000≤m.out.length then (9,m) else (0,{ m with out:=m.out++[rgQ m 4] }))
 else (0,m)
def actQ (i:In) (m:MS):Int×MS:=
 if i.op=12 then (match loadQ m (w32 (rgQ m i.b+i.imm)) with
  | none=>(3,m)
  | some v=>(0,setQ i.a v m))
 else if i.op=13 then (if w32 (rgQ m i.b+i.imm)<0∨(m.mem.length:Int)≤w32 (rgQ m i.b+i.imm) then (3,m) else (0,{ m with mem:=m.mem.set (w32 (rgQ m i.b+i.imm)).toNat (w32 (rgQ m i.a)) }))
 else if i.op=14 then (if rgQ m i.a<0∨i.imm≤rgQ m i.a then (if i.b=0 then 5 else i.b,m) else (0,m))
 else if i.op=20 then sysQ i.imm m
 else (0,m)
def nextQ (i:In) (m:MS):MS:=
 if i.op=15∨i.op=16 then (if (decide (rgQ m i.a=rgQ m i.b))=decide (i.op=15) then { m with pc:=m.pc+1+i.imm } else { m with pc:=m.pc+1 })
 else if i.op=18 then { setQ 31 (m.pc+1) m with pc:=i.imm }
 else if i.op=17 then { m with pc:=i.imm }
 else if i.op=19 then { m with pc:=rgQ m i.a }
 else { m with pc:=m.pc+1 }
def stepQ (code:List In) (m:MS):Int×MS:=
 if m.pc<0 then (2,m) else match code[m.pc.toNat]? with
 | none=>(2,m)
 | some i=>if goodI i=false then (8,m) else
  let r:=actQ i m
  if r.1≠0 then r else
  let v:=reckonQ i (rgQ r.2 i.b) (rgQ r.2 i.c)
  if v.2.1≠0 then (v.2.1,r.2) else
  (0,nextQ i (if v.2.2 then setQ i.a v.1 r.2 else r.2))
def runQ (code:List In):Nat→MS→Int×Int×MS
 | 0,m=>(0,0,m)
 | f+1,m=>
  let r:=stepQ code m
  if r.1=0 then let q:=runQ code f r.2
   (q.1,q.2.1+1,q.2.2) else (r.1,1,r.2)
def ms0 (mem:Nat) (inp:List Int):MS:=⟨List.replicate 32 0,List.replicate mem 0,0,inp,[]⟩
def usedQ (l:List Int):List Int:=(l.reverse.dropWhile (fun x=>decide (x=0))).reverse
def seqQ (code:List In) (mem:Int) (inp:List Int) (fuel:Int):Int×Int×List Int×List Int:=
 if mem<0∨32000<mem∨4096<code.length then (0,0,[],[]) else
 let r:=runQ code fuel.toNat (ms0 mem.toNat inp)
 (r.1,r.2.1,r.2.2.out,usedQ r.2.2.mem)
end Go.Proofs.YtkolmklfgbimoaaGreatDoor
namespace Go.Proofs.YtkolmklfgbimoaaGreatDoor
open Go Go.Sx Go.Sx.Chunk
theorem w32_in (n:Int) : -2147483648≤w32 n∧w32 n≤2147483647:=by
 unfold w32 IntKind.wrap;simp [IntKind.bits,IntKind.signed]
 (try split) <;> omega
theorem w32_id {n:Int} (h : -2147483648≤n∧n≤2147483647):w32 n=n:=by
 unfold w32 IntKind.wrap;simp [IntKind.bits,IntKind.signed]
 (try split) <;> omega
theorem i64_id {n:Int} (h : -9223372036854775808≤n∧n≤9223372036854775807):IntKind.i64.wrap n=n:=by
 unfold IntKind.wrap;simp [IntKind.bits,IntKind.signed]
 (try split) <;> omega
theorem wrapC (n:Int):FnC (α:=Unit) Tryz.prog 157 [.int .i64 n] [] [] (fun _=>.int .i64 (w32 n)) (fun _=>[]) (fun _=>True):=by
 have hb:=w32_in n;unfold w32 at *;refine fn_intro Tryz.func157 Tryz.ntmps157 rfl rfl rfl (fun w0=>?_);refine rrs ?_;exact en () trivial
theorem addC (a b:Int) (h : -9223372036854775808≤a+b∧a+b≤9223372036854775807):FnC (α:=Unit) Tryz.prog 154 [.int .i64 a,.int .i64 b] [] [] (fun _=>.int .i64 (w32 (a+b))) (fun _=>[]) (fun _=>True):=by
 refine fn_intro Tryz.func154 Tryz.ntmps154 rfl rfl rfl (fun w0=>?_);refine rrs ?_;refine cl (wrapC (a+b)) ?_;intro _ _;refine rrs ?_;exact en () trivial
theorem tdiv_in {a b:Int} (h : -2147483648≤a∧a≤2147483647) : -2147483648≤a.tdiv b∧a.tdiv b≤2147483648:=by
 have h1:=Int.natAbs_tdiv_le_natAbs a b;omega
theorem divC (a b:Int):FnC (α:=Unit) Tryz.prog 159 [.int .i64 a,.int .i64 b] [] [] (fun _=>if w32 b=0 then .tuple #[.int .i64 0,.int .i64 0,.bool false] else .tuple #[.int .i64 (w32 ((w32 a).tdiv (w32 b))),.int .i64 ((w32 a).tmod (w32 b)),.bool true]) (fun _=>[]) (fun _=>True):=by
 have ha:=w32_in a;have hq:=i64_id (n:=(w32 a).tdiv (w32 b)) (by have:=tdiv_in (b:=w32 b) ha;omega);have h1:=wrapC a;have h2:=wrapC b;generalize w32 a=x at *;generalize w32 b=y at *;by_cases h0:y=0
 ·simp only [if_pos h0];refine fn_intro Tryz.func159 Tryz.ntmps159 rfl rfl rfl (fun w0=>?_);refine rrs ?_;refine cl (h1) ?_;intro _ _;refine rrs ?_;refine cl (h2) ?_;intro _ _;refine rrs ?_;exact en () trivial
 ·simp only [if_neg h0];have h3:=wrapC (x.tdiv y);rw [← hq] at h3;refine fn_intro Tryz.func159 Tryz.ntmps159 rfl rfl rfl (fun w0=>?_);refine rrs ?_;refine cl (h1) ?_;intro _ _;refine rrs ?_;refine cl (h2) ?_;intro _ _;refine rrs ?_;refine dx [0,1,2,4,5,6,3,7,8,9] [] [] ?_;refine rr ?_;refine cld (h3) ?_;intro _ _;refine rrs ?_;exact en () trivial (hv:=by rw [hq];rfl)
theorem truthC (b:Bool):FnC (α:=Unit) Tryz.prog 208 [.bool b] [] [] (fun _=>.int .i64 (truQ b)) (fun _=>[]) (fun _=>True):=by
 refine fn_intro Tryz.func208 Tryz.ntmps208 rfl rfl rfl (fun w0=>?_);try simp only [Sx.ap1,Sx.ap2,Sx.ap3]
 cases b
 ·skip
  refine rr ?_;exact en () trivial
 ·skip
  refine rr ?_;exact en () trivial
def reckV (r:Option Int):Value:=match r with
 | some v=>.tuple #[.int .i64 v,.bool true]
 | none=>.tuple #[.int .i64 0,.bool false]
theorem mul_in {b c:Int} (hb : -2147483648≤b∧b≤2147483647) (hc : -2147483648≤c∧c≤2147483647) : -9223372036854775808≤b*c∧b*c≤9223372036854775807:=by
 have h:(b*c).natAbs≤4611686018427387904:=by
  rw [Int.natAbs_mul];have h1:b.natAbs≤2147483648:=by omega
  have h2:c.natAbs≤2147483648:=by omega
  exact Nat.mul_le_mul h1 h2
 omega
theorem reckC (i:In) (b c:Int) (hb : -2147483648≤b∧b≤2147483647) (hc : -2147483648≤c∧c≤2147483647) (hi : -2147483648≤i.imm∧i.imm≤2147483647):FnC (α:=Unit) Tryz.prog 158 [inG i,.int .i64 b,.int .i64 c] [] [] (fun _=>reckV (reckQ i b c)) (fun _=>[]) (fun _=>True):=by
 have hm:=i64_id (mul_in hb hc);have ht1:=truthC (decide (b<c));have ht2:=truthC (decide (b=c));have hs:IntKind.i64.wrap (i.imm*2 ^ (min (16:Int).toNat IntKind.i64.bits))=IntKind.i64.wrap (i.imm*65536):=rfl;unfold inG reckQ;by_cases h1:i.op=1
 ·rw [if_pos h1];unfold reckV;refine fn_intro Tryz.func158 Tryz.ntmps158 rfl rfl rfl (fun w0=>?_);refine rrs ?_;intro b3 _;refine rr ?_;exact en () trivial
 rw [if_neg h1];by_cases h2:i.op=2
 ·rw [if_pos h2];unfold reckV;refine fn_intro Tryz.func158 Tryz.ntmps158 rfl rfl rfl (fun w0=>?_);refine rrs ?_;intro b3 _;refine rr ?_;exact en () trivial
 rw [if_neg h2];by_cases h3:i.op=3
 ·rw [if_pos h3];unfold reckV;refine fn_intro Tryz.func158 Tryz.ntmps158 rfl rfl rfl (fun w0=>?_);refine rrs ?_;intro b3 _;refine rr ?_;exact en () trivial (hv:=by rw [hm];rfl)
 rw [if_neg h3];by_cases h6:i.op=6
 ·rw [if_pos h6];unfold reckV;refine fn_intro Tryz.func158 Tryz.ntmps158 rfl rfl rfl (fun w0=>?_);refine rrs ?_;intro b3 _;refine rr ?_;exact en () trivial
 rw [if_neg h6];by_cases h7:i.op=7
 ·rw [if_pos h7];unfold reckV;refine fn_intro Tryz.func158 Tryz.ntmps158 rfl rfl rfl (fun w0=>?_);refine rrs ?_;intro b3 _;refine rr ?_;exact en () trivial
 rw [if_neg h7];by_cases h8:i.op=8
 ·rw [if_pos h8];unfold reckV;refine fn_intro Tryz.func158 Tryz.ntmps158 rfl rfl rfl (fun w0=>?_);refine rrs ?_;intro b3 _;refine rr ?_;refine cl (ht1) ?_;intro _ _;refine rrs ?_;exact en () trivial
 rw [if_neg h8];by_cases h9:i.op=9
 ·rw [if_pos h9];unfold reckV;refine fn_intro Tryz.func158 Tryz.ntmps158 rfl rfl rfl (fun w0=>?_);refine rrs ?_;intro b3 _;refine rr ?_;refine cl (ht2) ?_;intro _ _;refine rrs ?_;exact en () trivial
 rw [if_neg h9];by_cases h10:i.op=10
 ·rw [if_pos h10];unfold reckV;refine fn_intro Tryz.func158 Tryz.ntmps158 rfl rfl rfl (fun w0=>?_);refine rrs ?_;intro b3 _;refine rr ?_;exact en () trivial
 rw [if_neg h10];by_cases h11:i.op=11
 ·rw [if_pos h11];unfold reckV;refine fn_intro Tryz.func158 Tryz.ntmps158 rfl rfl rfl (fun w0=>?_);refine rrs ?_;intro b3 _;refine rr ?_;exact en () trivial
 rw [if_neg h11];unfold reckV;refine fn_intro Tryz.func158 Tryz.ntmps158 rfl rfl rfl (fun w0=>?_);refine rrs ?_;intro b3 _;refine rr ?_;exact en () trivial
def reckonV (r:Int×Int×Bool):Value:=.tuple #[.int .i64 r.1,.int .i64 r.2.1,.bool r.2.2]
theorem reckonC (i:In) (b c:Int) (hg:goodI i=true) (hi : -2147483648≤i.imm∧i.imm≤2147483647):FnC (α:=Unit) Tryz.prog 105 [inG i,.int .i64 b,.int .i64 c] [] [] (fun _=>reckonV (reckonQ i b c)) (fun _=>[]) (fun _=>True):=by
 have h1:=wrapC b;have h2:=wrapC c;have h3:=reckC i (w32 b) (w32 c) (w32_in b) (w32_in c) hi;have h4:=rightIC i;rw [hg] at h4;unfold reckonQ;cases hr:reckQ i (w32 b) (w32 c) with
 | some v=>
  rw [hr] at h3;have h5:=wrapC v;unfold reckV at h3;unfold inG reckonV at *;dsimp only at *;refine fn_intro Tryz.func105 Tryz.ntmps105 rfl rfl rfl (fun w0=>?_);refine rrs ?_;intro b3 _;refine rr ?_;refine cl (h1) ?_;intro _ _;refine rrs ?_;refine cl (h2) ?_;intro _ _;refine rrs ?_;refine cl (h3) ?_;intro _ _;refine rrs ?_;refine cl (h4) ?_;intro _ _;refine rrs ?_;refine cl (h5) ?_;intro _ _;refine rrs ?_;exact en () trivial
 | none=>
  rw [hr] at h3;have h5:=divC (w32 b) (w32 c);rw [w32_id (w32_in b),w32_id (w32_in c)] at h5;unfold reckV at h3;unfold inG reckonV at *;dsimp only at *;by_cases hd:i.op=4∨i.op=5
  ·rw [if_pos hd];by_cases h0:w32 c=0
   ·rw [if_pos h0];simp only [if_pos h0] at h5;have hcase:(i.op=4)∨(i.op=5∧¬ i.op=4):=by omega
    rcases hcase with h40 | ⟨h50,h40⟩
    all_goals
     refine fn_intro Tryz.func105 Tryz.ntmps105 rfl rfl rfl (fun w0=>?_);refine rrs ?_;intro b3 _;refine rr ?_;refine cl (h1) ?_;intro _ _;refine rrs ?_;refine cl (h2) ?_;intro _ _;refine rrs ?_;refine cl (h3) ?_;intro _ _;refine rrs ?_;refine cl (h4) ?_;intro _ _;refine rrs ?_;refine cl (h5) ?_;intro _ _;refine rrs ?_;exact en () trivial
   ·rw [if_neg h0];simp only [if_neg h0] at h5;have hcase:(i.op=4∧¬ i.op=5)∨(i.op=5∧¬ i.op=4):=by omega
    rcases hcase with ⟨h40,h50⟩ | ⟨h50,h40⟩
    ·rw [if_neg h50];refine fn_intro Tryz.func105 Tryz.ntmps105 rfl rfl rfl (fun w0=>?_);refine rrs ?_;intro b3 _;refine rr ?_;refine cl (h1) ?_;intro _ _;refine rrs ?_;refine cl (h2) ?_;intro _ _;refine rrs ?_;refine cl (h3) ?_;intro _ _;refine rrs ?_;refine cl (h4) ?_;intro _ _;refine rrs ?_;refine cl (h5) ?_;intro _ _;refine rrs ?_;exact en () trivial
    ·rw [if_pos h50];refine fn_intro Tryz.func105 Tryz.ntmps105 rfl rfl rfl (fun w0=>?_);refine rrs ?_;intro b3 _;refine rr ?_;refine cl (h1) ?_;intro _ _;refine rrs ?_;refine cl (h2) ?_;intro _ _;refine rrs ?_;refine cl (h3) ?_;intro _ _;refine rrs ?_;refine cl (h4) ?_;intro _ _;refine rrs ?_;refine cl (h5) ?_;intro _ _;refine rrs ?_;exact en () trivial
  ·rw [if_neg hd];have h40:¬ i.op=4:=fun h=>hd (.inl h)
   have h50:¬ i.op=5:=fun h=>hd (.inr h)
   refine fn_intro Tryz.func105 Tryz.ntmps105 rfl rfl rfl (fun w0=>?_);refine rrs ?_;intro b3 _;refine rr ?_;refine cl (h1) ?_;intro _ _;refine rrs ?_;refine cl (h2) ?_;intro _ _;refine rrs ?_;refine cl (h3) ?_;intro _ _;refine rrs ?_;refine cl (h4) ?_;intro _ _;refine rrs ?_;exact en () trivial
def i64C (l:List Int):List Value:=l.map fun n=>Value.int .i64 n
theorem i64C_len (l:List Int):(i64C l).length=l.length:=by simp [i64C]
theorem i64C_get {l:List Int} {k:Nat} {v:Int} (h:l[k]? = some v):(i64C l)[k]? = some (.int .i64 v):=by simp [i64C,h]
theorem i64C_set (l:List Int) (k:Nat) (v:Int):(i64C l).set k (.int .i64 v)=i64C (l.set k v):=by simp [i64C,List.map_set]
theorem i64C_rep (n:Nat):List.replicate n (Value.int .i64 0)=i64C (List.replicate n 0):=by simp [i64C]
theorem i64C_one (l:List Int):∀ u∈i64C l,u.oneCell'=true:=by
 intro u hu;simp only [i64C,List.mem_map] at hu;obtain ⟨n,_,rfl⟩:=hu;rfl
theorem i64C_snoc (l:List Int) (v:Int):i64C (l++[v])=i64C l++[.int .i64 v]:=by simp [i64C]
theorem i64C_take (l:List Int) (k:Nat):(i64C l).take (k*1)=i64C (l.take k):=by simp [i64C,List.map_take]
def memH (mm g n:Nat) (l:List Int):List Chunk:=[blk mm [.slice (some ⟨g,0,none⟩) n n] 190,row (some ⟨g,0,none⟩) n 3 1 n (i64C l)]
def mP (mm:Nat):Value:=.pointer (some ⟨mm,0,none⟩)
theorem newBad (n:Int) (h:n<0∨32000<n):FnC (α:=Unit) Tryz.prog 53 [.int .i64 n] [] [] (fun _=>.pointer none) (fun _=>[]) (fun _=>True):=by
 by_cases h0:n<0
 ·skip
  refine fn_intro Tryz.func53 Tryz.ntmps53 rfl rfl rfl (fun w0=>?_);refine rrs ?_;exact en () trivial
 ·have h1:32000<n:=h.resolve_left h0;refine fn_intro Tryz.func53 Tryz.ntmps53 rfl rfl rfl (fun w0=>?_);refine rrs ?_;exact en () trivial
theorem newOk (n:Nat) (h:n≤32000):FnC Tryz.prog 53 [.int .i64 (n:Int)] [] [] (fun z:Nat×Nat=>mP z.1) (fun z=>memH z.1 z.2 n (List.replicate n 0)) (fun _=>True):=by
 unfold memH mP;refine fn_intro Tryz.func53 Tryz.ntmps53 rfl rfl rfl (fun w0=>?_);refine rrs ?_;intro g _;refine rr ?_;intro mm _;refine rr ?_;rw [i64C_rep];exact en (mm,g) trivial
theorem thereC (mm g n:Nat) (l:List Int) (a:Int) (hn:n≤1000000):FnC (α:=Unit) Tryz.prog 207 [mP mm,.int .i64 a] (memH mm g n l) [] (fun _=>.bool (decide (0≤a∧a<n))) (fun _=>memH mm g n l) (fun _=>True):=by
 unfold memH mP;by_cases h0:0≤a
 ·skip
  refine fn_intro Tryz.func207 Tryz.ntmps207 rfl rfl rfl (fun w0=>?_);refine rrs ?_;exact en () trivial (hv:=by simp [packR,h0])
 ·skip
  refine fn_intro Tryz.func207 Tryz.ntmps207 rfl rfl rfl (fun w0=>?_);refine rrs ?_;exact en () trivial (hv:=by simp [packR,h0])
theorem loadOk (mm g n:Nat) (l:List Int) (a v:Int) (hn:n≤1000000) (hl:l.length=n) (h0:0≤a) (hv:l[a.toNat]? = some v):FnC (α:=Unit) Tryz.prog 153 [mP mm,.int .i64 a] (memH mm g n l) [] (fun _=>.tuple #[.int .i64 v,.bool true]) (fun _=>memH mm g n l) (fun _=>True):=by
 have h1:a.toNat<l.length:=(List.getElem?_eq_some_iff.1 hv).1;have h2:=thereC mm g n l a hn;rw [show decide (0≤a∧a<(n:Int))=true by rw [decide_eq_true_eq];omega] at h2;have h3:(i64C l)[0+a.toNat*1]? = some (.int .i64 v):=by rw [show 0+a.toNat*1=a.toNat by omega];exact i64C_get hv
 have hlen:=i64C_len l;unfold memH mP at *;refine fn_intro Tryz.func153 Tryz.ntmps153 rfl rfl rfl (fun w0=>?_);refine rrs ?_;refine cl (h2) ?_;intro _ _;refine rrs ?_;exact en () trivial
theorem loadBad (mm g n:Nat) (l:List Int) (a:Int) (hn:n≤1000000) (h:¬ (0≤a∧a<n)):FnC (α:=Unit) Tryz.prog 153 [mP mm,.int .i64 a] (memH mm g n l) [] (fun _=>.tuple #[.int .i64 0,.bool false]) (fun _=>memH mm g n l) (fun _=>True):=by
 have h2:=thereC mm g n l a hn;rw [show decide (0≤a∧a<(n:Int))=false by rw [decide_eq_false_iff_not];exact h] at h2;unfold memH mP at *;refine fn_intro Tryz.func153 Tryz.ntmps153 rfl rfl rfl (fun w0=>?_);refine rrs ?_;refine cl (h2) ?_;intro _ _;refine rrs ?_;exact en () trivial
theorem storeOk (mm g n:Nat) (l:List Int) (a v:Int) (hn:n≤1000000) (hl:l.length=n) (h0:0≤a∧a<n):FnC (α:=Unit) Tryz.prog 155 [mP mm,.int .i64 a,.int .i64 v] (memH mm g n l) [] (fun _=>.bool true) (fun _=>memH mm g n (l.set a.toNat (w32 v))) (fun _=>True):=by
 have h2:=thereC mm g n l a hn;rw [show decide (0≤a∧a<(n:Int))=true by rw [decide_eq_true_eq];omega] at h2;have h3:=wrapC v;have hlen:=i64C_len l;unfold memH mP at *;refine fn_intro Tryz.func155 Tryz.ntmps155 rfl rfl rfl (fun w0=>?_);refine rrs ?_;refine cl (h2) ?_;intro _ _;refine rrs ?_;refine dx [0,1,2,3,4,5,6,7,8] [3] [] ?_;refine rr ?_;refine cld (h3) ?_;intro _ _;refine rrs ?_;rw [show 0+a.toNat*1=a.toNat by omega,i64C_set];exact en () trivial
theorem storeBad (mm g n:Nat) (l:List Int) (a v:Int) (hn:n≤1000000) (h:¬ (0≤a∧a<n)):FnC (α:=Unit) Tryz.prog 155 [mP mm,.int .i64 a,.int .i64 v] (memH mm g n l) [] (fun _=>.bool false) (fun _=>memH mm g n l) (fun _=>True):=by
 have h2:=thereC mm g n l a hn;rw [show decide (0≤a∧a<(n:Int))=false by rw [decide_eq_false_iff_not];exact h] at h2;unfold memH mP at *;refine fn_intro Tryz.func155 Tryz.ntmps155 rfl rfl rfl (fun w0=>?_);refine rrs ?_;refine cl (h2) ?_;intro _ _;refine rrs ?_;exact en () trivial
theorem cloneIC (a:Option Addr) (k:Nat) (l:List Int) (hn:l.length≤1000000000000):FnC (α:=Option Addr×Nat) Tryz.prog 54 [.slice a l.length k] [] [rng a (i64C l)] (fun z=>.slice z.1 l.length z.2) (fun z=>[row z.1 z.2 3 1 l.length (i64C l)]) (fun _=>True):=by
 have hone:=i64C_one l;have hlen:=i64C_len l;cases a with
 | none=>
  by_cases h0:l.length=0
  ·rw [List.length_eq_zero_iff.mp h0];refine fn_intro Tryz.func54 Tryz.ntmps54 rfl rfl rfl (fun w0=>?_);refine rrs ?_;exact en (none,0) trivial
  ·skip
   refine fn_intro Tryz.func54 Tryz.ntmps54 rfl rfl rfl (fun w0=>?_);try simp only [Sx.ap1,Sx.ap2,Sx.ap3]
   refine w_use (fun w hw=>(hw.pick 0 rfl).rng_some (by omega)) ?_;rintro ⟨g1,hg⟩;cases hg
 | some a=>
  refine fn_intro Tryz.func54 Tryz.ntmps54 rfl rfl rfl (fun w0=>?_);refine rrs ?_;intro b1 _;refine rr ?_;rintro ⟨z1,z2⟩ _;refine rr ?_;exact en (z1,z2) trivial (hp:=by rw [Nat.zero_add,List.nil_append];(repeat (first | exact Has.nil | (apply Has.cons;focus ((repeat (first | exact pick_here | apply pick_there));done)) | apply Has.nrow | apply Has.gen0))) (hv:=by rw [Nat.zero_add];rfl)
theorem wordsC (mm g n:Nat) (l:List Int) (hn:n≤1000000) (hl:l.length=n):FnC Tryz.prog 108 [mP mm] (memH mm g n l) [] (fun z:Option Addr×Nat=>.slice z.1 n z.2) (fun z=>memH mm g n l++[row z.1 z.2 3 1 n (i64C l)]) (fun _=>True):=by
 have h1:=cloneIC (some ⟨g,0,none⟩) n l (by omega);rw [hl] at h1;unfold memH mP at *;refine fn_intro Tryz.func108 Tryz.ntmps108 rfl rfl rfl (fun w0=>?_);refine rrs ?_;refine cl (h1) ?_;intro z _;refine rrs ?_;exact en z trivial
theorem used_eq (l:List Int) (k:Nat):k≤l.length→usedQ (l.take k)=if k=0 then [] else if l.getD (k-1) 0=0 then usedQ (l.take (k-1)) else l.take k:=by
 intro hk;cases k with
 | zero=>simp [usedQ]
 | succ k=>
  have hlt:k<l.length:=hk;rw [if_neg (by omega),show k+1-1=k by omega];have hg:l.getD k 0=l[k]:=by simp [hlt]
  rw [hg,List.take_succ_eq_append_getElem hlt];unfold usedQ;rw [List.reverse_append,List.reverse_singleton,List.singleton_append,List.dropWhile_cons];by_cases h0:l[k]=0
  ·rw [if_pos h0,if_pos (by simpa using h0)]
  ·rw [if_neg h0,if_neg (by simpa using h0)];simp
theorem usedC (mm g n:Nat) (l:List Int) (hn:n≤1000000) (hl:l.length=n):FnC Tryz.prog 56 [mP mm] (memH mm g n l) [] (fun z:Option Addr×Nat=>.slice z.1 (usedQ l).length z.2) (fun z=>memH mm g n l++[row z.1 z.2 3 1 (usedQ l).length (i64C (usedQ l))]) (fun _=>True):=by
 have h1:=wordsC mm g n l hn hl;have hlen:=i64C_len l;unfold memH mP at *;refine fn_intro Tryz.func56 Tryz.ntmps56 rfl rfl rfl (fun w0=>?_);refine rrs ?_;refine cl (h1) ?_;intro ⟨za,zc⟩ _;refine rrs ?_;refine lo [] (fun k:Nat=>[(3,.slice za k zc)]) (fun k=>[(2,row za zc 3 1 k (i64C (l.take k)))]) (fun k=>k≤n∧usedQ (l.take k)=usedQ l) (fun k=>k) n ⟨Nat.le_refl _,by rw [← hl,List.take_length]⟩ ?_ (hH:=by rw [← hl,List.take_length]);rintro k ⟨hk,hu⟩ K1 hK1;dsimp only at hk hu ⊢;have hue:=used_eq l k (by omega);by_cases h0:k=0
 ·subst h0;have hu0:usedQ l=[]:=by rw [← hu,hue];rfl
  rw [hu0];refine rr ?_;exact en (za,zc) trivial
 ·rw [if_neg h0] at hue;obtain ⟨v,hvk⟩:=some_at (l:=l) (k:=k-1) (by omega);have hvd:l.getD (k-1) 0=v:=by simp [List.getD,hvk]
  have hget:(i64C (l.take k))[0+((k:Int)-1).toNat*1]? = some (.int .i64 v):=by
   rw [show 0+((k:Int)-1).toNat*1=k-1 by omega];refine i64C_get ?_;rw [List.getElem?_take,if_pos (by omega)];exact hvk
  have hll:=i64C_len (l.take k);refine w_use (fun w hw=>(hw.pick 2 rfl).row_cap) fun hcap=>?_
  refine w_use (fun w hw=>(hw.pick 2 rfl).row_some (by first | omega | decide | (simp;done) | (simp <;> omega))) ?_;rintro ⟨g1,rfl⟩;rw [hvd] at hue;by_cases hz:v=0
  ·rw [if_pos hz] at hue;refine rr ?_;refine w_turn (fun w hw=>by have:=(hw.pick 2 rfl).row_shrink (m:=k-1) (by omega);rw [i64C_take] at this;exact this) ?_;rw [List.take_take,Nat.min_eq_left (by omega),show ((k:Int)-1).toNat=k-1 by omega];exact ro hK1 (k-1) ⟨by omega,by rw [← hue,hu]⟩
  ·rw [if_neg hz] at hue;have hul:usedQ l=l.take k:=by rw [← hu,hue]
   rw [hul,List.length_take,Nat.min_eq_left (by omega)];refine rr ?_;exact en (some ⟨g1,0,none⟩,zc) trivial
section
structure Kq where
 mk ::
 (ca:Option Addr) (cn cc:Nat) (mm g n:Nat)
structure Aq where
 mk ::
 (ia:Option Addr) (ic:Nat) (oa:Option Addr) (oc:Nat)
def msC (k:Kq) (m:MS) (x:Aq):List Value:=.slice k.ca k.cn k.cc :: .pointer (some ⟨k.mm,0,none⟩)::(i64C m.regs++[.int .i64 m.pc,.slice x.ia m.inp.length x.ic,.slice x.oa m.out.length x.oc])
def qP (c:Nat):Value:=.pointer (some ⟨c,0,none⟩)
def inK32 (n:Int):Prop := -2147483648≤n∧n≤2147483647
structure OkM (k:Kq) (m:MS):Prop where
 rl:m.regs.length=32
 rb:∀ r∈m.regs,inK32 r
 ml:m.mem.length=k.n
 mb:∀ v∈m.mem,inK32 v
 pc : -10000000000≤m.pc∧m.pc≤10000000000
 ol:m.out.length≤10000
 kn:k.n≤32000
structure OkIn (IA:Addr) (L:List Int) (m:MS) (x:Aq):Prop where
 tok:m.inp≠[]→∃ j,L.drop j=m.inp∧x.ia=some (IA.add j)
 cap:m.inp.length≤x.ic
section
variable {k:Kq} {m:MS} {x:Aq}
theorem nth_app {a b:List Value} {j n:Nat} {v:Value} (hn:a.length=n) (h:b[j]? = some v):Sx.nth (a++b) (n+j)=some v:=by
 rw [nth_eq,List.getElem?_append_right (by omega),show n+j-a.length=j by omega];exact h
theorem ms_len (h:m.regs.length=32):(msC k m x).length=37:=by simp [msC,i64C,h]
theorem ms_pc (h:m.regs.length=32):Sx.nth (msC k m x) (0+34)=some (.int .i64 m.pc):=by
 show Sx.nth (i64C m.regs++_) (32+0)=_
 exact nth_app (by rw [i64C_len,h]) rfl
theorem ms_in (h:m.regs.length=32):Sx.nth (msC k m x) (0+35)=some (.slice x.ia m.inp.length x.ic):=by
 show Sx.nth (i64C m.regs++_) (32+1)=_
 exact nth_app (by rw [i64C_len,h]) rfl
theorem ms_out (h:m.regs.length=32):Sx.nth (msC k m x) (0+36)=some (.slice x.oa m.out.length x.oc):=by
 show Sx.nth (i64C m.regs++_) (32+2)=_
 exact nth_app (by rw [i64C_len,h]) rfl
theorem rg_at (h:m.regs.length=32) {n:Int} (h0:0≤n) (h1:n<32):m.regs[n.toNat]? = some (rgQ m n):=by
 unfold rgQ;rw [List.getD_eq_getElem?_getD,List.getElem?_eq_getElem (by omega)];rfl
theorem ms_reg (h:m.regs.length=32) {n:Int} (h0:0≤n) (h1:n<32):Sx.nth (msC k m x) (0+2+n.toNat*1)=some (.int .i64 (rgQ m n)):=by
 rw [show 0+2+n.toNat*1=n.toNat+1+1 by omega];show Sx.nth (i64C m.regs++_) n.toNat=_
 rw [nth_eq,List.getElem?_append_left (by rw [i64C_len,h];omega)];exact i64C_get (rg_at h h0 h1)
theorem ms_setR (h:m.regs.length=32) {n:Int} (h0:0≤n) (h1:n<32) (hz:n≠0) (v:Int):(msC k m x).set (0+2+n.toNat*1) (.int .i64 (w32 v))=msC k (setQ n v m) x:=by
 rw [show 0+2+n.toNat*1=n.toNat+1+1 by omega];unfold msC setQ;rw [if_neg hz,List.set_cons_succ,List.set_cons_succ,List.set_append_left _ _ (by rw [i64C_len,h];omega),i64C_set]
theorem ms_setPc (h:m.regs.length=32) (v:Int):(msC k m x).set (0+34) (.int .i64 v)=msC k { m with pc:=v } x:=by
 show Value.slice _ _ _::Value.pointer _::(i64C m.regs++_).set 32 _=_
 rw [List.set_append_right _ _ (by rw [i64C_len,h];exact Nat.le_refl _),i64C_len,h];rfl
theorem ms_setIn (h:m.regs.length=32) (a:Option Addr) (c:Nat) (l:List Int):(msC k m x).set (0+35) (.slice a l.length c)=msC k { m with inp:=l } { x with ia:=a,ic:=c }:=by
 show Value.slice _ _ _::Value.pointer _::(i64C m.regs++_).set 33 _=_
 rw [List.set_append_right _ _ (by rw [i64C_len,h];decide),i64C_len,h];rfl
theorem ms_setOut (h:m.regs.length=32) (a:Option Addr) (c:Nat) (l:List Int):(msC k m x).set (0+36) (.slice a l.length c)=msC k { m with out:=l } { x with oa:=a,oc:=c }:=by
 show Value.slice _ _ _::Value.pointer _::(i64C m.regs++_).set 34 _=_
 rw [List.set_append_right _ _ (by rw [i64C_len,h];decide),i64C_len,h];rfl
theorem setQ_len (n v:Int) (m:MS):(setQ n v m).regs.length=m.regs.length:=by unfold setQ;split <;> simp
theorem mem_set {α:Type} {p:α→Prop} {l:List α} {k:Nat} {v:α} (h:∀ x∈l,p x) (hv:p v):∀ x∈l.set k v,p x:=by
 intro x hx;rcases List.mem_or_eq_of_mem_set hx with hx | rfl
 ·exact h x hx
 ·exact hv
theorem OkM.set (h:OkM k m) (n v:Int):OkM k (setQ n v m):=by
 unfold setQ;split
 ·exact h
 ·exact ⟨by simp [h.rl],mem_set h.rb (w32_in v),h.ml,h.mb,h.pc,h.ol,h.kn⟩
theorem OkM.rg (h:OkM k m) (n:Int):inK32 (rgQ m n):=by
 unfold rgQ;rw [List.getD_eq_getElem?_getD];cases hg:m.regs[n.toNat]? with
 | none=>exact ⟨by decide,by decide⟩
 | some r=>exact h.rb r (List.mem_of_getElem? hg)
theorem setC (c:Nat) (n v:Int) (h:m.regs.length=32) (h0:0≤n∧n<32):FnC (α:=Unit) Tryz.prog 106 [qP c,.int .i64 n,.int .i64 v] [blk c (msC k m x) 130] [] (fun _=>.tuple #[]) (fun _=>[blk c (msC k (setQ n v m) x) 130]) (fun _=>True):=by
 have hl:=ms_len (k:=k) (x:=x) h;unfold qP;by_cases hz:n=0
 ·have hs:setQ n v m=m:=by unfold setQ;rw [if_pos hz]
  rw [hs];refine fn_intro Tryz.func106 Tryz.ntmps106 rfl rfl rfl (fun w0=>?_);refine rrs ?_;exact en () trivial
 ·have h1:=wrapC v;refine fn_intro Tryz.func106 Tryz.ntmps106 rfl rfl rfl (fun w0=>?_);refine rrs ?_;refine dx [0,1,2,4,5,3,6,7] [] [] ?_;refine rr ?_;refine cld (h1) ?_;intro _ _;refine rrs ?_;rw [ms_setR h h0.1 h0.2 hz];exact en () trivial
end
end
section
def mqH (c:Nat) (k:Kq) (m:MS) (x:Aq):List Chunk:=[blk c (msC k m x) 130,blk k.mm [.slice (some ⟨k.g,0,none⟩) k.n k.n] 190,row (some ⟨k.g,0,none⟩) k.n 3 1 k.n (i64C m.mem),row x.oa x.oc 3 1 m.out.length (i64C m.out)]
def inB (IA:Addr) (L:List Int):Chunk:=rng (some IA) (i64C L)
theorem i64C_drop (l:List Int) (j:Nat):(i64C l).drop j=i64C (l.drop j):=by simp [i64C,List.map_drop]
theorem in_look {w0 w:World} {M:Nat→Prop} {H:List Chunk} {IA a:Addr} {L:List Int} {m:MS} {x:Aq} {i:Nat} (hw:St w0 M w H) (hp:nthC H i=some (inB IA L)) (hx:OkIn IA L m x) (hn:m.inp≠[]) (ha:x.ia=some a):St w0 M w (rng (some a) (i64C m.inp)::H):=by
 obtain ⟨j,hj,hta⟩:=hx.tok hn;rw [ha] at hta;cases hta;refine hw.look rfl ?_;have h1:Prov [inB IA L] (rng (some (IA.add j)) ((i64C L).drop j)):=rng_drop _;rw [i64C_drop,hj] at h1;refine h1.one (prov_mem ?_);unfold ros;rw [List.mem_filter];exact ⟨nthC_mem hp,rfl⟩
theorem OkIn.same {IA:Addr} {L:List Int} {m m':MS} {x y:Aq} (h:OkIn IA L m x) (h1:m'.inp=m.inp) (h2:y.ia=x.ia) (h3:y.ic=x.ic):OkIn IA L m' y:=
 ⟨fun hn=>by rw [h1] at hn ⊢;rw [h2];exact h.tok hn,by rw [h1,h3];exact h.cap⟩
theorem setQ_inp (n v:Int) (m:MS):(setQ n v m).inp=m.inp:=by unfold setQ;split <;> rfl
theorem setQ_out (n v:Int) (m:MS):(setQ n v m).out=m.out:=by unfold setQ;split <;> rfl
theorem setQ_mem (n v:Int) (m:MS):(setQ n v m).mem=m.mem:=by unfold setQ;split <;> rfl
theorem setQ_pc (n v:Int) (m:MS):(setQ n v m).pc=m.pc:=by unfold setQ;split <;> rfl
variable {IA:Addr} {L:List Int} {k:Kq}
theorem systemC (c:Nat) (n:Int) (m:MS) (x:Aq) (hn:0≤n∧n≤2) (hm:OkM k m) (hx:OkIn IA L m x):FnC Tryz.prog 156 [qP c,.int .i64 n] (mqH c k m x) [inB IA L] (fun _=>.int .i64 (sysQ n m).1) (fun y:Aq=>mqH c k (sysQ n m).2 y) (fun y=>OkIn IA L (sysQ n m).2 y):=by
 have h32:=hm.rl;have hin:=ms_in (k:=k) (x:=x) h32;have hou:=ms_out (k:=k) (x:=x) h32;have hlen:=ms_len (k:=k) (x:=x) h32;have hol:=hm.ol;obtain ⟨ia,ic,oa,oc⟩:=x;unfold mqH qP sysQ at *;by_cases n0:n=0
 ·rw [if_pos n0];refine fn_intro Tryz.func156 Tryz.ntmps156 rfl rfl rfl (fun w0=>?_);refine rrs ?_;exact en ⟨ia,ic,oa,oc⟩ hx
 rw [if_neg n0];by_cases n1:n=1
 ·rw [if_pos n1];cases hi:m.inp with
  | nil=>
   rw [hi] at hin;dsimp only;refine fn_intro Tryz.func156 Tryz.ntmps156 rfl rfl rfl (fun w0=>?_);refine rrs ?_;exact en ⟨ia,ic,oa,oc⟩ hx
  | cons v r=>
   have hne:m.inp≠[]:=by rw [hi];simp
   obtain ⟨j,hj,hta⟩:=hx.tok hne;dsimp only at hta hin hou;have hs:=setC (k:=k) (m:=m) (x:=⟨ia,ic,oa,oc⟩) c 4 v h32 (by decide);have h32':(setQ 4 v m).regs.length=32:=by rw [setQ_len,h32]
   have hin2:=ms_in (k:=k) (x:=⟨ia,ic,oa,oc⟩) h32';have hlen2:=ms_len (k:=k) (x:=⟨ia,ic,oa,oc⟩) h32';have hcap:=hx.cap;rw [setQ_inp] at hin2;rw [hi] at hin hin2 hcap;have hl:(v::r).length=r.length+1:=rfl;rw [hl] at hin hin2 hcap;dsimp only at hin2 hcap ⊢;unfold qP at hs;have hget:(i64C m.inp)[(0:Int).toNat*1]? = some (.int .i64 v):=by rw [hi];rfl
   have hgl:=i64C_len m.inp;refine fn_intro Tryz.func156 Tryz.ntmps156 rfl rfl rfl (fun w0=>?_);try simp only [Sx.ap1,Sx.ap2,Sx.ap3]
   refine w_turn (fun w hw=>in_look (i:=4) hw rfl hx hne hta) ?_;subst hta;refine rr ?_;refine cl (hs) ?_;intro _ _;refine rrs ?_;have e1:((none:Option Int).getD ((r.length+1:Nat):Int)).toNat-((some (1:Int)).getD 0).toNat=r.length:=by simp
   rw [e1,ms_setIn h32' _ _ r];refine en ⟨_,_,oa,oc⟩ ⟨fun hr=>⟨j+1,?_,?_⟩,?_⟩ (hp:=by rw [setQ_mem,setQ_out] at *;(repeat (first | exact Has.nil | (apply Has.cons;focus ((repeat (first | exact pick_here | apply pick_there));done)) | apply Has.nrow | apply Has.gen0)))
   ·show L.drop (j+1)=r
    rw [show L.drop (j+1)=(L.drop j).drop 1 by rw [List.drop_drop],hj,hi];rfl
   ·have:r.length≠0:=fun h=>hr (List.length_eq_zero_iff.mp h)
    dsimp only;rw [if_neg (by show ¬ ic=1;omega)];show some _=some _
    congr 1
    show (IA.add j).add 1=_
    unfold Addr.add;by_cases hz:j=0 <;> simp [hz,Nat.add_assoc]
   ·show r.length≤ic-1;omega
 rw [if_neg n1];have n2:n=2:=by omega
 rw [if_pos n2];by_cases hf:10000≤m.out.length
 ·rw [if_pos hf];refine fn_intro Tryz.func156 Tryz.ntmps156 rfl rfl rfl (fun w0=>?_);refine rrs ?_;exact en ⟨ia,ic,oa,oc⟩ hx
 ·rw [if_neg hf];have hr4:Sx.nth (msC k m ⟨ia,ic,oa,oc⟩) (0+2+(4:Int).toNat*1)=some (.int .i64 (rgQ m 4)):=ms_reg h32 (by decide) (by decide);dsimp only at hou ⊢;refine fn_intro Tryz.func156 Tryz.ntmps156 rfl rfl rfl (fun w0=>?_);refine rrs ?_;refine dr [0,1,2,3,4,5,6,7,8,9,10,11,12,13,14] [4,9] [0] ?_;refine rr ?_;refine rr ?_;intro b1 _;refine rr ?_;rintro ⟨a2,c2⟩ ⟨hc2,_⟩;refine rr ?_;dsimp only;rw [show m.out.length+1=(m.out++[rgQ m 4]).length by simp,ms_setOut h32 _ _ (m.out++[rgQ m 4]),← i64C_snoc];exact en ⟨ia,ic,a2,c2⟩ (hx.same rfl rfl rfl)
structure RgI (i:In):Prop where
 a:0≤i.a∧i.a<32
 b:0≤i.b∧i.b<32
 c:0≤i.c∧i.c<32
 imm : -32768≤i.imm∧i.imm≤32767
 sys:i.op=20→0≤i.imm∧i.imm≤2
 op:0≤i.op∧i.op≤20
theorem regI_in {n:Int} {b:Bool} (h:regI n b=true):0≤n∧n<32:=by
 unfold regI at h;simp only [Bool.or_eq_true,decide_eq_true_eq,Bool.and_eq_true] at h;omega
theorem rgI {i:In} (h:goodI i=true):RgI i:=by
 unfold goodI at h;simp only [Bool.and_eq_true] at h;obtain ⟨⟨⟨⟨h0,h1⟩,h2⟩,h3⟩,h4⟩:=h;have h5:okO i.op=true:=h0;unfold okO at h5;rw [decide_eq_true_eq] at h5
 have h6:i.imm=0∨numI i.op i.imm=true:=by
  simp only [Bool.or_eq_true,decide_eq_true_eq,Bool.and_eq_true] at h4;exact h4.imp id (fun h=>h.2)
 refine ⟨regI_in h1,regI_in h2,regI_in h3,?_,fun h20=>?_,h5⟩
 ·rcases h6 with h6 | h6
  ·omega
  ·unfold numI fits16 at h6;split at h6
   ·rw [decide_eq_true_eq] at h6;omega
   ·split at h6
    ·rw [decide_eq_true_eq] at h6;omega
    ·split at h6
     ·simp only [Bool.and_eq_true,decide_eq_true_eq] at h6;omega
     ·rw [decide_eq_true_eq] at h6;omega
 ·rcases h6 with h6 | h6
  ·omega
  ·unfold numI at h6;rw [if_neg (by omega),if_pos h20,decide_eq_true_eq] at h6;omega
end
section
variable {IA:Addr} {L:List Int} {k:Kq}
theorem actC (c:Nat) (i:In) (m:MS) (x:Aq) (hg:goodI i=true) (hm:OkM k m) (hx:OkIn IA L m x):FnC Tryz.prog 104 [qP c,inG i] (mqH c k m x) [inB IA L] (fun _=>.int .i64 (actQ i m).1) (fun y:Aq=>mqH c k (actQ i m).2 y) (fun y=>OkIn IA L (actQ i m).2 y):=by
 have h32:=hm.rl;have hr:=rgI hg;have hra:=ms_reg (k:=k) (x:=x) h32 hr.a.1 hr.a.2;have hrb:=ms_reg (k:=k) (x:=x) h32 hr.b.1 hr.b.2;have hra0:=hr.a;have hrb0:=hr.b;have hba:=hm.rg i.a;have hbb:=hm.rg i.b;unfold inK32 at hba hbb;have hlen:=ms_len (k:=k) (x:=x) h32;have hkn:=hm.kn;have hml:=hm.ml;have himm:=hr.imm;have hadd:=addC (rgQ m i.b) i.imm (by omega);generalize hw:w32 (rgQ m i.b+i.imm)=w at *;unfold actQ;rw [hw];by_cases h12:i.op=12
 ·rw [if_pos h12];by_cases hin:0≤w∧w<k.n
  ·obtain ⟨v,hv⟩:=some_at (l:=m.mem) (k:=w.toNat) (by omega);have hl:loadQ m w=some v:=by unfold loadQ;rw [if_neg (by omega),hv]
   rw [hl];have h1:=loadOk k.mm k.g k.n m.mem w v (by omega) hml hin.1 hv;have h2:=setC (k:=k) (m:=m) (x:=x) c i.a v h32 hr.a;unfold mqH qP inG memH mP at *;dsimp only;refine fn_intro Tryz.func104 Tryz.ntmps104 rfl rfl rfl (fun w0=>?_);refine rrs ?_;intro b3 _;refine rr ?_;refine dr [0,1,2,3,4,5,6,7,8,9,10,11,12,13,14,15] [2,6,9,13] [0,1] ?_;refine rr ?_;refine dr [0,1,2,3,4,5,6,7,8,9,10,11,12,13] [3,6] [0,1] ?_;refine rr ?_;refine cld (hadd) ?_;intro _ _;refine rrs ?_;refine cle (h1) ?_;intro _ _;refine rrs ?_;refine cl (h2) ?_;intro _ _;refine rrs ?_;exact en x (hx.same (setQ_inp _ _ _) rfl rfl) (hp:=by rw [setQ_mem,setQ_out];(repeat (first | exact Has.nil | (apply Has.cons;focus ((repeat (first | exact pick_here | apply pick_there));done)) | apply Has.nrow | apply Has.gen0)))
  ·have hl:loadQ m w=none:=by
    unfold loadQ;by_cases h:w<0
    ·rw [if_pos h]
    ·rw [if_neg h];exact List.getElem?_eq_none (by omega)
   rw [hl];have h1:=loadBad k.mm k.g k.n m.mem w (by omega) hin;unfold mqH qP inG memH mP at *;dsimp only;refine fn_intro Tryz.func104 Tryz.ntmps104 rfl rfl rfl (fun w0=>?_);refine rrs ?_;intro b3 _;refine rr ?_;refine dr [0,1,2,3,4,5,6,7,8,9,10,11,12,13,14,15] [2,6,9,13] [0,1] ?_;refine rr ?_;refine dr [0,1,2,3,4,5,6,7,8,9,10,11,12,13] [3,6] [0,1] ?_;refine rr ?_;refine cld (hadd) ?_;intro _ _;refine rrs ?_;refine cle (h1) ?_;intro _ _;refine rrs ?_;exact en x hx
 rw [if_neg h12];by_cases h13:i.op=13
 ·rw [if_pos h13];by_cases hin:0≤w∧w<k.n
  ·rw [if_neg (by omega)];have h1:=storeOk k.mm k.g k.n m.mem w (rgQ m i.a) (by omega) hml hin;unfold mqH qP inG memH mP at *;dsimp only;refine fn_intro Tryz.func104 Tryz.ntmps104 rfl rfl rfl (fun w0=>?_);refine rrs ?_;intro b3 _;refine rr ?_;refine dr [0,1,2,3,4,5,6,7,8,9,10,11,12,13,14,15] [2,6,9,13] [0,1] ?_;refine rr ?_;refine dr [0,1,2,3,4,5,6,8,7,9,10] [3,6] [0,1] ?_;refine rr ?_;refine cld (hadd) ?_;intro _ _;refine rrs ?_;refine cle (h1) ?_;intro _ _;refine rrs ?_;exact en x (hx.same rfl rfl rfl)
  ·rw [if_pos (by omega)];have h1:=storeBad k.mm k.g k.n m.mem w (rgQ m i.a) (by omega) hin;unfold mqH qP inG memH mP at *;dsimp only;refine fn_intro Tryz.func104 Tryz.ntmps104 rfl rfl rfl (fun w0=>?_);refine rrs ?_;intro b3 _;refine rr ?_;refine dr [0,1,2,3,4,5,6,7,8,9,10,11,12,13,14,15] [2,6,9,13] [0,1] ?_;refine rr ?_;refine dr [0,1,2,3,4,5,6,8,7,9,10] [3,6] [0,1] ?_;refine rr ?_;refine cld (hadd) ?_;intro _ _;refine rrs ?_;refine cle (h1) ?_;intro _ _;refine rrs ?_;exact en x hx
 rw [if_neg h13];by_cases h14:i.op=14
 ·rw [if_pos h14];have hcase:(rgQ m i.a<0)∨(¬ rgQ m i.a<0∧i.imm≤rgQ m i.a)∨(¬ rgQ m i.a<0∧¬ i.imm≤rgQ m i.a):=by omega
  unfold mqH qP inG at *;rcases hcase with ha | ⟨ha,ha2⟩ | ⟨ha,ha2⟩
  ·rw [if_pos (.inl ha)];by_cases hb0:i.b=0
   ·rw [if_pos hb0];refine fn_intro Tryz.func104 Tryz.ntmps104 rfl rfl rfl (fun w0=>?_);refine rrs ?_;intro b3 _;refine rr ?_;refine dr [0,1,2,3,4,5,6,7,8,9,10,11,12,13,14,15] [2,6,9,13] [0,1] ?_;refine rr ?_;exact en x hx
   ·rw [if_neg hb0];refine fn_intro Tryz.func104 Tryz.ntmps104 rfl rfl rfl (fun w0=>?_);refine rrs ?_;intro b3 _;refine rr ?_;refine dr [0,1,2,3,4,5,6,7,8,9,10,11,12,13,14,15] [2,6,9,13] [0,1] ?_;refine rr ?_;exact en x hx
  ·rw [if_pos (.inr ha2)];by_cases hb0:i.b=0
   ·rw [if_pos hb0];refine fn_intro Tryz.func104 Tryz.ntmps104 rfl rfl rfl (fun w0=>?_);refine rrs ?_;intro b3 _;refine rr ?_;refine dr [0,1,2,3,4,5,6,7,8,9,10,11,12,13,14,15] [2,6,9,13] [0,1] ?_;refine rr ?_;exact en x hx
   ·rw [if_neg hb0];refine fn_intro Tryz.func104 Tryz.ntmps104 rfl rfl rfl (fun w0=>?_);refine rrs ?_;intro b3 _;refine rr ?_;refine dr [0,1,2,3,4,5,6,7,8,9,10,11,12,13,14,15] [2,6,9,13] [0,1] ?_;refine rr ?_;exact en x hx
  ·rw [if_neg (by omega)];refine fn_intro Tryz.func104 Tryz.ntmps104 rfl rfl rfl (fun w0=>?_);refine rrs ?_;intro b3 _;refine rr ?_;refine dr [0,1,2,3,4,5,6,7,8,9,10,11,12,13,14,15] [2,6,9,13] [0,1] ?_;refine rr ?_;exact en x hx
 rw [if_neg h14];by_cases h20:i.op=20
 ·rw [if_pos h20];have h1:=systemC (IA:=IA) (L:=L) c i.imm m x (hr.sys h20) hm hx;generalize sysQ i.imm m=r at *;obtain ⟨r1,r2⟩:=r;unfold mqH qP inG at *;dsimp only at h1 ⊢;refine fn_intro Tryz.func104 Tryz.ntmps104 rfl rfl rfl (fun w0=>?_);refine rrs ?_;intro b3 _;refine rr ?_;refine dr [0,1,2,3,4,5,6,7,8,9,10,11,12,13,14,15] [2,6,9,13] [0,1] ?_;refine rr ?_;refine cl (h1) ?_;intro y hy;refine rrs ?_;exact en y hy
 rw [if_neg h20];unfold mqH qP inG at *;refine fn_intro Tryz.func104 Tryz.ntmps104 rfl rfl rfl (fun w0=>?_);refine rrs ?_;intro b3 _;refine rr ?_;refine dr [0,1,2,3,4,5,6,7,8,9,10,11,12,13,14,15] [2,6,9,13] [0,1] ?_;refine rr ?_;exact en x hx
theorem nextC (c:Nat) (i:In) (m:MS) (x:Aq) (hg:goodI i=true) (hm:OkM k m):FnC (α:=Unit) Tryz.prog 107 [qP c,inG i] [blk c (msC k m x) 130] [] (fun _=>.int .i64 (nextQ i m).pc) (fun _=>[blk c (msC k { nextQ i m with pc:=m.pc } x) 130]) (fun _=>True):=by
 have h32:=hm.rl;have hr:=rgI hg;have hra:=ms_reg (k:=k) (x:=x) h32 hr.a.1 hr.a.2;have hrb:=ms_reg (k:=k) (x:=x) h32 hr.b.1 hr.b.2;have hra0:=hr.a;have hrb0:=hr.b;have hpc:=ms_pc (k:=k) (x:=x) h32;have hlen:=ms_len (k:=k) (x:=x) h32;have hpb:=hm.pc;have himm:=hr.imm;unfold nextQ qP inG at *;by_cases hbr:i.op=15∨i.op=16
 ·rw [if_pos hbr];have hcase:(i.op=15)∨(i.op=16∧¬ i.op=15):=by omega
  by_cases hab:rgQ m i.a=rgQ m i.b
  ·rcases hcase with h15 | ⟨h16,h15⟩
   ·rw [if_pos (by simp [hab,h15])];have hd:((rgQ m i.a == rgQ m i.b) == (i.op == 15))=true:=by simp [hab,h15]
    refine fn_intro Tryz.func107 Tryz.ntmps107 rfl rfl rfl (fun w0=>?_);refine rrs ?_;intro b3 _;refine rr ?_;refine dr [0,1,2,3,4,5,6,7,8,9,10,11,12,13,14,15] [2,6,9,13] [0,1] ?_;refine rr ?_;exact en () trivial
   ·rw [if_neg (by simp [hab,h16])];have hd:((rgQ m i.a == rgQ m i.b) == (i.op == 15))=false:=by simp [hab,h16]
    refine fn_intro Tryz.func107 Tryz.ntmps107 rfl rfl rfl (fun w0=>?_);refine rrs ?_;intro b3 _;refine rr ?_;refine dr [0,1,2,3,4,5,6,7,8,9,10,11,12,13,14,15] [2,6,9,13] [0,1] ?_;refine rr ?_;exact en () trivial
  ·rcases hcase with h15 | ⟨h16,h15⟩
   ·rw [if_neg (by simp [hab,h15])];have hd:((rgQ m i.a == rgQ m i.b) == (i.op == 15))=false:=by simp [hab,h15]
    refine fn_intro Tryz.func107 Tryz.ntmps107 rfl rfl rfl (fun w0=>?_);refine rrs ?_;intro b3 _;refine rr ?_;refine dr [0,1,2,3,4,5,6,7,8,9,10,11,12,13,14,15] [2,6,9,13] [0,1] ?_;refine rr ?_;exact en () trivial
   ·rw [if_pos (by simp [hab,h16])];have hd:((rgQ m i.a == rgQ m i.b) == (i.op == 15))=true:=by simp [hab,h16]
    refine fn_intro Tryz.func107 Tryz.ntmps107 rfl rfl rfl (fun w0=>?_);refine rrs ?_;intro b3 _;refine rr ?_;refine dr [0,1,2,3,4,5,6,7,8,9,10,11,12,13,14,15] [2,6,9,13] [0,1] ?_;refine rr ?_;exact en () trivial
 rw [if_neg hbr];have h15:¬ i.op=15:=fun h=>hbr (.inl h)
 have h16:¬ i.op=16:=fun h=>hbr (.inr h)
 by_cases h18:i.op=18
 ·rw [if_pos h18];have h1:=setC (k:=k) (m:=m) (x:=x) c 31 (m.pc+1) h32 (by decide)
  have e:({ ({ setQ 31 (m.pc+1) m with pc:=i.imm }:MS) with pc:=m.pc }:MS)=setQ 31 (m.pc+1) m:=by
   show ({ setQ 31 (m.pc+1) m with pc:=m.pc }:MS)=_
   unfold setQ;rfl
  rw [e];unfold qP at h1;refine fn_intro Tryz.func107 Tryz.ntmps107 rfl rfl rfl (fun w0=>?_);refine rrs ?_;intro b3 _;refine rr ?_;refine dr [0,1,2,3,4,5,6,7,8,9,10,11,12,13,14,15] [2,6,9,13] [0,1] ?_;refine rr ?_;refine cl (h1) ?_;intro _ _;refine rrs ?_;exact en () trivial
 rw [if_neg h18];by_cases h17:i.op=17
 ·rw [if_pos h17];refine fn_intro Tryz.func107 Tryz.ntmps107 rfl rfl rfl (fun w0=>?_);refine rrs ?_;intro b3 _;refine rr ?_;refine dr [0,1,2,3,4,5,6,7,8,9,10,11,12,13,14,15] [2,6,9,13] [0,1] ?_;refine rr ?_;exact en () trivial
 rw [if_neg h17];by_cases h19:i.op=19
 ·rw [if_pos h19];refine fn_intro Tryz.func107 Tryz.ntmps107 rfl rfl rfl (fun w0=>?_);refine rrs ?_;intro b3 _;refine rr ?_;refine dr [0,1,2,3,4,5,6,7,8,9,10,11,12,13,14,15] [2,6,9,13] [0,1] ?_;refine rr ?_;exact en () trivial
 rw [if_neg h19];refine fn_intro Tryz.func107 Tryz.ntmps107 rfl rfl rfl (fun w0=>?_);refine rrs ?_;intro b3 _;refine rr ?_;refine dr [0,1,2,3,4,5,6,7,8,9,10,11,12,13,14,15] [2,6,9,13] [0,1] ?_;refine rr ?_;exact en () trivial
end
section
variable {IA:Addr} {L:List Int} {k:Kq}
theorem OkM.sys {m:MS} (h:OkM k m) (n:Int):OkM k (sysQ n m).2:=by
 unfold sysQ;split
 ·exact h
 ·split
  ·cases hi:m.inp with
   | nil=>exact h
   | cons v r=>
    have:=h.set 4 v;exact ⟨this.rl,this.rb,this.ml,this.mb,this.pc,this.ol,this.kn⟩
  ·split
   ·split
    ·exact h
    ·exact ⟨h.rl,h.rb,h.ml,h.mb,h.pc,by simp;omega,h.kn⟩
   ·exact h
theorem OkM.act {m:MS} (h:OkM k m) (i:In):OkM k (actQ i m).2:=by
 unfold actQ;split
 ·cases loadQ m (w32 (rgQ m i.b+i.imm)) with
  | none=>exact h
  | some v=>exact h.set _ _
 ·split
  ·split
   ·exact h
   ·exact ⟨h.rl,h.rb,by simp [h.ml],mem_set h.mb (w32_in _),h.pc,h.ol,h.kn⟩
  ·split
   ·split <;> exact h
   ·split
    ·exact h.sys _
    ·exact h
theorem act_pc {i:In} {m:MS}:(actQ i m).2.pc=m.pc:=by
 unfold actQ;split
 ·cases loadQ m (w32 (rgQ m i.b+i.imm)) with
  | none=>rfl
  | some v=>exact setQ_pc _ _ _
 ·split
  ·split <;> rfl
  ·split
   ·split <;> rfl
   ·split
    ·unfold sysQ;split
     ·rfl
     ·split
      ·cases m.inp with
       | nil=>rfl
       | cons v r=>exact setQ_pc 4 v m
      ·split
       ·split <;> rfl
       ·rfl
    ·rfl
theorem nextQ_mem (i:In) (m:MS):(nextQ i m).mem=m.mem:=by
 unfold nextQ;split
 ·split <;> rfl
 ·split
  ·exact setQ_mem _ _ _
  ·split
   ·rfl
   ·split <;> rfl
theorem nextQ_out (i:In) (m:MS):(nextQ i m).out=m.out:=by
 unfold nextQ;split
 ·split <;> rfl
 ·split
  ·exact setQ_out _ _ _
  ·split
   ·rfl
   ·split <;> rfl
theorem nextQ_inp (i:In) (m:MS):(nextQ i m).inp=m.inp:=by
 unfold nextQ;split
 ·split <;> rfl
 ·split
  ·exact setQ_inp _ _ _
  ·split
   ·rfl
   ·split <;> rfl
theorem nextQ_len (i:In) (m:MS):(nextQ i m).regs.length=m.regs.length:=by
 unfold nextQ;split
 ·split <;> rfl
 ·split
  ·exact setQ_len _ _ _
  ·split
   ·rfl
   ·split <;> rfl
theorem OkM.next {m:MS} (h:OkM k m) {i:In} (hg:goodI i=true) (hp:0≤m.pc∧m.pc≤1000000):OkM k (nextQ i m):=by
 have hi:=(rgI hg).imm;have ha:=h.rg i.a;unfold inK32 at ha;have hb:∀ p:Int,-10000000000≤p∧p≤10000000000→OkM k { m with pc:=p }:=fun p hp=>⟨h.rl,h.rb,h.ml,h.mb,hp,h.ol,h.kn⟩
 unfold nextQ;split
 ·split
  ·exact hb _ (by omega)
  ·exact hb _ (by omega)
 ·split
  ·have h2:=h.set 31 (m.pc+1);exact ⟨h2.rl,h2.rb,h2.ml,h2.mb,by dsimp only;omega,h2.ol,h2.kn⟩
  ·split
   ·exact hb _ (by omega)
   ·split
    ·exact hb _ (by omega)
    ·exact hb _ (by omega)
theorem OkM.step {m:MS} (h:OkM k m) {code:List In} (hc:code.length≤1000000):OkM k (stepQ code m).2:=by
 unfold stepQ;split
 ·exact h
 ·rename_i h0;cases hi:code[m.pc.toNat]? with
  | none=>exact h
  | some i=>
   have hlt:=(List.getElem?_eq_some_iff.1 hi).1;dsimp only;by_cases hg:goodI i=false
   ·rw [if_pos hg];exact h
   ·rw [if_neg hg];have h1:=h.act i;have hpc:=act_pc (i:=i) (m:=m);generalize actQ i m=r at *;split
    ·exact h1
    ·split
     ·exact h1
     ·refine OkM.next ?_ (by simpa using hg) ?_
      ·split
       ·exact h1.set _ _
       ·exact h1
      ·split
       ·rw [setQ_pc];omega
       ·omega
theorem stepC (c:Nat) (code:List In) (m:MS) (x:Aq) (hk:k.cn=code.length) (hc:code.length≤1000000) (hm:OkM k m) (hx:OkIn IA L m x):FnC Tryz.prog 55 [qP c] (mqH c k m x) [rng k.ca (insC code),inB IA L] (fun _=>.int .i64 (stepQ code m).1) (fun y:Aq=>mqH c k (stepQ code m).2 y) (fun y=>OkIn IA L (stepQ code m).2 y):=by
 have h32:=hm.rl;have hpc:=ms_pc (k:=k) (x:=x) h32;have hlen:=ms_len (k:=k) (x:=x) h32;have hpb:=hm.pc;have hcl:=insC_len code;obtain ⟨ca0,cn,cc,mm,g,n⟩:=k;dsimp only at hk;subst hk;dsimp only at *;unfold stepQ;by_cases h0:m.pc<0
 ·rw [if_pos h0];unfold mqH qP;refine fn_intro Tryz.func55 Tryz.ntmps55 rfl rfl rfl (fun w0=>?_);refine rrs ?_;refine dr [0,1,2,3,4,5,6,7,8,9,10,11,12,13,14,15,16] [3,9,13] [0] ?_;refine rr ?_;exact en x hx
 rw [if_neg h0];by_cases h1:(code.length:Int)≤m.pc
 ·rw [List.getElem?_eq_none (by omega)];unfold mqH qP;refine fn_intro Tryz.func55 Tryz.ntmps55 rfl rfl rfl (fun w0=>?_);refine rrs ?_;refine dr [0,1,2,3,4,5,6,7,8,9,10,11,12,13,14,15,16] [3,9,13] [0] ?_;refine rr ?_;exact en x hx
 obtain ⟨i,hi⟩:=some_at (l:=code) (k:=m.pc.toNat) (by omega);rw [hi];dsimp only;have hall:((insC code).drop (m.pc.toNat*5)).take 5=[.int .i64 i.op,.int .i64 i.a,.int .i64 i.b,.int .i64 i.c,.int .i64 i.imm]:=insC_all hi _ (by omega);have hright:=rightIC i;cases hg:goodI i with
 | false=>
  rw [if_pos rfl];rw [hg] at hright;unfold mqH qP inG at *;refine fn_intro Tryz.func55 Tryz.ntmps55 rfl rfl rfl (fun w0=>?_);try simp only [Sx.ap1,Sx.ap2,Sx.ap3]
  refine w_use (fun w hw=>(hw.pick 4 rfl).rng_some (by first | omega | decide | (simp;done) | (simp <;> omega))) ?_;rintro ⟨g1,rfl⟩;refine rr ?_;refine dr [0,1,2,3,4,5,6,7,8,9,10,11,12,13,14,15,16] [3,9,13] [0] ?_;refine rr ?_;refine dr [0,1,2,3,4,5,6,7,8,9,10,11] [3,7,9] [0,4] ?_;refine rr ?_;intro b3 _;refine rr ?_;refine cl (hright) ?_;intro _ _;refine rrs ?_;exact en x hx
 | true=>
  rw [if_neg (by decide)];rw [hg] at hright;have ha:=actC (IA:=IA) (L:=L) c i m x hg hm hx;have hma:=hm.act i;have hpa:=act_pc (i:=i) (m:=m);have hr:=rgI hg;generalize actQ i m=r at *;obtain ⟨tr,m1⟩:=r;dsimp only at ha hma hpa ⊢;have h321:=hma.rl;have hrb:=fun y=>ms_reg (k:=⟨ca0,code.length,cc,mm,g,n⟩) (x:=y) h321 hr.b.1 hr.b.2
  have hrc:=fun y=>ms_reg (k:=⟨ca0,code.length,cc,mm,g,n⟩) (x:=y) h321 hr.c.1 hr.c.2
  have hrb0:=hr.b;have hrc0:=hr.c;have hra0:=hr.a;by_cases ht:tr=0
  ·rw [if_neg (by simpa using ht)];subst ht;have hk:=reckonC i (rgQ m1 i.b) (rgQ m1 i.c) hg (by have:=hr.imm;omega);generalize reckonQ i (rgQ m1 i.b) (rgQ m1 i.c)=v at *;obtain ⟨v1,v2,v3⟩:=v;unfold reckonV at hk;dsimp only at hk ⊢;by_cases hv2:v2=0
   ·rw [if_neg (by simpa using hv2)];subst hv2;cases v3 with
    | false=>
     simp only [if_neg (show ¬ (false=true) by decide)];have hn:=fun y=>nextC (k:=⟨ca0,code.length,cc,mm,g,n⟩) (x:=y) c i m1 hg hma
     have hnl:({ nextQ i m1 with pc:=m1.pc }:MS).regs.length=32:=by show (nextQ i m1).regs.length=32;rw [nextQ_len,h321]
     have hsp:=fun y=>ms_setPc (k:=⟨ca0,code.length,cc,mm,g,n⟩) (x:=y) hnl (nextQ i m1).pc
     have hn1:=nextQ_mem i m1;have hn2:=nextQ_out i m1;have hn3:=nextQ_inp i m1;have hll:=fun y=>ms_len (k:=⟨ca0,code.length,cc,mm,g,n⟩) (x:=y) hnl
     generalize nextQ i m1=m2 at *;unfold mqH qP inG at *;dsimp only at *;refine fn_intro Tryz.func55 Tryz.ntmps55 rfl rfl rfl (fun w0=>?_);try simp only [Sx.ap1,Sx.ap2,Sx.ap3]
     refine w_use (fun w hw=>(hw.pick 4 rfl).rng_some (by first | omega | decide | (simp;done) | (simp <;> omega))) ?_;rintro ⟨g1,rfl⟩;refine rr ?_;refine dr [0,1,2,3,4,5,6,7,8,9,10,11,12,13,14,15,16] [3,9,13] [0] ?_;refine rr ?_;refine dr [0,1,2,3,4,5,6,7,8,9,10,11] [3,7,9] [0,4] ?_;refine rr ?_;intro b3 _;refine rr ?_;refine cl (hright) ?_;intro _ _;refine rrs ?_;refine cl (ha) ?_;intro y hy;try simp only [Sx.ap1,Sx.ap2,Sx.ap3]
     have hrb:=hrb y;have hrc:=hrc y;have hll:=hll y;refine rr ?_;refine dr [0,1,2,3,4,5,6,7,8,9,10,11,12,13,14,15,16,17,18,19,20,21,22] [0,3,7,10,14] [0,4] ?_;refine rr ?_;refine cle (hk) ?_;intro _ _;refine rrs ?_;refine cl (hn y) ?_;intro _ _;refine rrs ?_;rw [hsp y,← hn1,← hn2];exact en y (hy.same hn3 rfl rfl)
    | true=>
     simp only [if_true];have hms:=hma.set i.a v1;have hst:=fun y=>setC (k:=⟨ca0,code.length,cc,mm,g,n⟩) (m:=m1) (x:=y) c i.a v1 h321 hr.a
     have hi1:=setQ_mem i.a v1 m1;have hi2:=setQ_out i.a v1 m1;have hi3:=setQ_inp i.a v1 m1;generalize setQ i.a v1 m1=m3 at *;have h323:=hms.rl;have hn:=fun y=>nextC (k:=⟨ca0,code.length,cc,mm,g,n⟩) (x:=y) c i m3 hg hms
     have hnl:({ nextQ i m3 with pc:=m3.pc }:MS).regs.length=32:=by show (nextQ i m3).regs.length=32;rw [nextQ_len,h323]
     have hsp:=fun y=>ms_setPc (k:=⟨ca0,code.length,cc,mm,g,n⟩) (x:=y) hnl (nextQ i m3).pc
     have hn1:=nextQ_mem i m3;have hn2:=nextQ_out i m3;have hn3:=nextQ_inp i m3;have hll:=fun y=>ms_len (k:=⟨ca0,code.length,cc,mm,g,n⟩) (x:=y) hnl
     generalize nextQ i m3=m2 at *;unfold mqH qP inG at *;dsimp only at *;refine fn_intro Tryz.func55 Tryz.ntmps55 rfl rfl rfl (fun w0=>?_);try simp only [Sx.ap1,Sx.ap2,Sx.ap3]
     refine w_use (fun w hw=>(hw.pick 4 rfl).rng_some (by first | omega | decide | (simp;done) | (simp <;> omega))) ?_;rintro ⟨g1,rfl⟩;refine rr ?_;refine dr [0,1,2,3,4,5,6,7,8,9,10,11,12,13,14,15,16] [3,9,13] [0] ?_;refine rr ?_;refine dr [0,1,2,3,4,5,6,7,8,9,10,11] [3,7,9] [0,4] ?_;refine rr ?_;intro b3 _;refine rr ?_;refine cl (hright) ?_;intro _ _;refine rrs ?_;refine cl (ha) ?_;intro y hy;try simp only [Sx.ap1,Sx.ap2,Sx.ap3]
     have hrb:=hrb y;have hrc:=hrc y;refine rr ?_;refine dr [0,1,2,3,4,5,6,7,8,9,10,11,12,13,14,15,16,17,18,19,20,21,22] [0,3,7,10,14] [0,4] ?_;refine rr ?_;refine cle (hk) ?_;intro _ _;try simp only [Sx.ap1,Sx.ap2,Sx.ap3]
     have hll:=hll y;refine rr ?_;refine cl (hst y) ?_;intro _ _;refine rrs ?_;refine cl (hn y) ?_;intro _ _;refine rrs ?_;rw [hsp y,← hi1,← hi2,← hn1,← hn2];exact en y (hy.same (hn3.trans hi3) rfl rfl)
   ·rw [if_pos (by simpa using hv2)];unfold mqH qP inG at *;dsimp only at *;refine fn_intro Tryz.func55 Tryz.ntmps55 rfl rfl rfl (fun w0=>?_);try simp only [Sx.ap1,Sx.ap2,Sx.ap3]
    refine w_use (fun w hw=>(hw.pick 4 rfl).rng_some (by first | omega | decide | (simp;done) | (simp <;> omega))) ?_;rintro ⟨g1,rfl⟩;refine rr ?_;refine dr [0,1,2,3,4,5,6,7,8,9,10,11,12,13,14,15,16] [3,9,13] [0] ?_;refine rr ?_;refine dr [0,1,2,3,4,5,6,7,8,9,10,11] [3,7,9] [0,4] ?_;refine rr ?_;intro b3 _;refine rr ?_;refine cl (hright) ?_;intro _ _;refine rrs ?_;refine cl (ha) ?_;intro y hy;try simp only [Sx.ap1,Sx.ap2,Sx.ap3]
    have hrb:=hrb y;have hrc:=hrc y;refine rr ?_;refine dr [0,1,2,3,4,5,6,7,8,9,10,11,12,13,14,15,16,17,18,19,20,21,22] [0,3,7,10,14] [0,4] ?_;refine rr ?_;refine cle (hk) ?_;intro _ _;refine rrs ?_;exact en y hy
  ·rw [if_pos (by simpa using ht)];unfold mqH qP inG at *;dsimp only at *;refine fn_intro Tryz.func55 Tryz.ntmps55 rfl rfl rfl (fun w0=>?_);try simp only [Sx.ap1,Sx.ap2,Sx.ap3]
   refine w_use (fun w hw=>(hw.pick 4 rfl).rng_some (by first | omega | decide | (simp;done) | (simp <;> omega))) ?_;rintro ⟨g1,rfl⟩;refine rr ?_;refine dr [0,1,2,3,4,5,6,7,8,9,10,11,12,13,14,15,16] [3,9,13] [0] ?_;refine rr ?_;refine dr [0,1,2,3,4,5,6,7,8,9,10,11] [3,7,9] [0,4] ?_;refine rr ?_;intro b3 _;refine rr ?_;refine cl (hright) ?_;intro _ _;refine rrs ?_;refine cl (ha) ?_;intro y hy;refine rrs ?_;exact en y hy
end
def resG (r:Int×Int×List Int×List Int) (z:Option Addr×Nat×Option Addr×Nat):Value:=.agg #[.int .i64 r.1,.int .i64 r.2.1,.slice z.1 r.2.2.1.length z.2.1,.slice z.2.2.1 r.2.2.2.length z.2.2.2]
def resH (r:Int×Int×List Int×List Int) (z:Option Addr×Nat×Option Addr×Nat):List Chunk:=[row z.1 z.2.1 3 1 r.2.2.1.length (i64C r.2.2.1),row z.2.2.1 z.2.2.2 3 1 r.2.2.2.length (i64C r.2.2.2)]
theorem runQ_zero (code:List In) (m:MS):runQ code 0 m=(0,0,m):=rfl
theorem runQ_succ (code:List In) (f:Nat) (m:MS):runQ code (f+1) m=if (stepQ code m).1=0 then ((runQ code f (stepQ code m).2).1,(runQ code f (stepQ code m).2).2.1+1,(runQ code f (stepQ code m).2).2.2) else ((stepQ code m).1,1,(stepQ code m).2):=rfl
theorem ok0 (ca:Option Addr) (cn cc mm g n:Nat) (inp:List Int) (hn:n≤32000):OkM ⟨ca,cn,cc,mm,g,n⟩ (ms0 n inp):=by
 refine ⟨by simp [ms0],?_,by simp [ms0],?_,by simp [ms0],by simp [ms0],hn⟩
 ·intro r hr;simp only [ms0,List.mem_replicate] at hr;rw [hr.2];exact ⟨by decide,by decide⟩
 ·intro r hr;simp only [ms0,List.mem_replicate] at hr;rw [hr.2];exact ⟨by decide,by decide⟩
theorem runC (ca0:Option Addr) (cc:Nat) (code:List In) (mem:Int) (ia:Option Addr) (ic:Nat) (inp:List Int) (fuel:Int) (hf:fuel≤9223372036854775807) (hil:inp.length≤1000000):FnC Tryz.prog 23 [.slice ca0 code.length cc,.int .i64 mem,.slice ia inp.length ic,.int .i64 fuel] [] [rng ca0 (insC code),rng ia (i64C inp)] (fun z=>resG (seqQ code mem inp fuel) z) (fun z=>resH (seqQ code mem inp fuel) z) (fun _=>True):=by
 unfold seqQ;by_cases hbad:mem<0∨32000<mem
 ·rw [if_pos (by omega)];have h1:=newBad mem hbad;unfold resG resH;by_cases hcl:(code.length:Int)>4096
  ·skip
   refine fn_intro Tryz.func23 Tryz.ntmps23 rfl rfl rfl (fun w0=>?_);refine rrs ?_;intro b8 _;refine rr ?_;refine cl (h1) ?_;intro _ _;refine rrs ?_;exact en (none,0,none,0) trivial
  ·skip
   refine fn_intro Tryz.func23 Tryz.ntmps23 rfl rfl rfl (fun w0=>?_);refine rrs ?_;intro b8 _;refine rr ?_;refine cl (h1) ?_;intro _ _;refine rrs ?_;exact en (none,0,none,0) trivial
 ·obtain ⟨n,rfl⟩:∃ n:Nat,mem=n:=⟨mem.toNat,by omega⟩
  have h1:=newOk n (by omega);by_cases hcl:(code.length:Int)>4096
  ·rw [if_pos (by omega)];unfold resG resH;unfold memH mP at h1;refine fn_intro Tryz.func23 Tryz.ntmps23 rfl rfl rfl (fun w0=>?_);refine rrs ?_;intro b8 _;refine rr ?_;refine cl (h1) ?_;intro _ _;refine rrs ?_;exact en (none,0,none,0) trivial
  ·rw [if_neg (by omega)];have h2:=cloneIC ia ic inp (by omega);rw [Int.toNat_natCast];generalize hR:runQ code fuel.toNat (ms0 n inp)=R;dsimp only;unfold memH mP at h1;have hus:=fun (mm g:Nat) (l:List Int) (hl:l.length=n)=>usedC mm g n l (by omega) hl
   unfold memH mP at hus;refine fn_intro Tryz.func23 Tryz.ntmps23 rfl rfl rfl (fun w0=>?_);refine rrs ?_;intro b8 _;refine rr ?_;refine cl (h1) ?_;intro ⟨mm,g⟩ _;refine rrs ?_;refine cl (h2) ?_;intro ⟨ja,jc⟩ _;refine rrs ?_;intro c _;refine rr ?_;intro b11 _;refine rr ?_;have hstep:=fun IA L m x (h1:OkM ⟨ca0,code.length,cc,mm,g,n⟩ m) (h2:OkIn IA L m x)=>stepC c code m x rfl (by omega) h1 h2
   unfold mqH qP at hstep;dsimp only at hstep;refine hv ([blk c (msC ⟨ca0,code.length,cc,mm,g,n⟩ (ms0 n inp) ⟨ja,jc,none,0⟩) 130,blk mm [.slice (some ⟨g,0,none⟩) n n] 190,row (some ⟨g,0,none⟩) n 3 1 n (i64C (ms0 n inp).mem),row none 0 3 1 0 (i64C []),blk b11 [.int .i64 0,.int .i64 ((0:Nat):Int),.slice none 0 0,.slice none 0 0] 54,row ja jc 3 1 inp.length (i64C inp),blk b8 [.int .i64 0,.int .i64 0,.slice none 0 0,.slice none 0 0] 54,rng ca0 (insC code),rng ia (i64C inp)]) ?_;refine w_use (fun w hw=>(hw.pick 5 rfl).row_cap) fun hcap=>?_
   refine w_use (p:=inp≠[]→∃ g1,ja=some ⟨g1,0,none⟩) (fun w hw h=>(hw.pick 5 rfl).row_some (List.length_pos_iff.2 h)) fun hsome=>?_
   obtain ⟨g1,hIA⟩:∃ g1:Nat,inp≠[]→ja=some ⟨g1,0,none⟩:=by
    by_cases h:inp=[]
    ·exact ⟨0,fun h2=>absurd h h2⟩
    ·obtain ⟨g1,hg1⟩:=hsome h;exact ⟨g1,fun _=>hg1⟩
   have hlend:∀ (R:List Chunk) (j:Nat),nthC R j=some (row ja jc 3 1 inp.length (i64C inp))→LendsAll R [inB ⟨g1,0,none⟩ inp]:=fun R j hj=>by
    by_cases h:inp=[]
    ·rw [h];exact lend_nil trivial
    ·rw [hIA h] at hj;exact lend_row hj trivial
   refine lo [3,8,9,10,11] (fun z:Nat×Int×MS×Aq=>[]) (fun z=>[(0,blk c (msC ⟨ca0,code.length,cc,mm,g,n⟩ z.2.2.1 z.2.2.2) 130),(2,row (some ⟨g,0,none⟩) n 3 1 n (i64C z.2.2.1.mem)),(3,row z.2.2.2.oa z.2.2.2.oc 3 1 z.2.2.1.out.length (i64C z.2.2.1.out)),(4,blk b11 [.int .i64 z.2.1,.int .i64 (z.1:Int),.slice none 0 0,.slice none 0 0] 54)])
    (fun z=>OkM ⟨ca0,code.length,cc,mm,g,n⟩ z.2.2.1∧OkIn ⟨g1,0,none⟩ inp z.2.2.1 z.2.2.2∧z.1≤fuel.toNat∧(z.2.1=0→R=((runQ code (fuel.toNat-z.1) z.2.2.1).1,(runQ code (fuel.toNat-z.1) z.2.2.1).2.1+z.1,(runQ code (fuel.toNat-z.1) z.2.2.1).2.2))∧(z.2.1≠0→R=(z.2.1,(z.1:Int),z.2.2.1))) (fun z=>fuel.toNat-z.1+(if z.2.1=0 then 1 else 0)) (0,0,ms0 n inp,⟨ja,jc,none,0⟩) ⟨ok0 _ _ _ _ _ _ _ (by omega),⟨fun h=>⟨0,rfl,by rw [hIA h];rfl⟩,hcap⟩,Nat.zero_le _,fun _=>by rw [← hR];simp,fun h=>absurd rfl h⟩ ?_
   rintro ⟨st,tr,m,y⟩ ⟨hm,hin,hst,hr0,hr1⟩ K1 hK1;dsimp only at hm hin hst hr0 hr1 ⊢;by_cases hgo:tr=0∧(st:Int)<fuel
   ·obtain ⟨htr,hlt⟩:=hgo;subst htr;have hr0:=hr0 rfl;obtain ⟨f,hf1⟩:∃ f,fuel.toNat-st=f+1:=⟨fuel.toNat-st-1,by omega⟩
    rw [hf1,runQ_succ] at hr0;have hs:=hstep ⟨g1,0,none⟩ inp m y hm hin;have hms:=hm.step (code:=code) (by omega);generalize stepQ code m=q at *;obtain ⟨tr2,m2⟩:=q;dsimp only at hs hms hr0;refine rr ?_;refine cl (hs) ?_ (hl:=lend_cons rfl (by repeat (first | exact find_here | apply find_there)) (hlend _ _ (by repeat (first | exact find_here | apply find_there))));intro y2 hy2;simp only [List.cons_append,List.nil_append];refine rr ?_;refine ro hK1 (st+1,tr2,m2,y2) ⟨hms,hy2,by dsimp only;omega,?_,?_⟩ (hμ:=?_)
    ·intro h;dsimp only at h ⊢;rw [if_pos h] at hr0;rw [show fuel.toNat-(st+1)=f by omega,hr0];simp only [Prod.mk.injEq,true_and,and_true];omega
    ·intro h;dsimp only at h ⊢;rw [if_neg h] at hr0;rw [hr0];simp only [Prod.mk.injEq,true_and,and_true];omega
    ·dsimp only;split <;> split <;> omega
   ·have hR2:R=(tr,(st:Int),m):=by
     by_cases h0:tr=0
     ·have h1:=hr0 h0;rw [show fuel.toNat-st=0 by omega,runQ_zero] at h1;rw [h1,h0];simp
     ·exact hr1 h0
    rw [hR2];dsimp only;have hus:=hus mm g m.mem hm.ml;have hou:=ms_out (k:=⟨ca0,code.length,cc,mm,g,n⟩) (x:=y) hm.rl;unfold resG resH;by_cases h0:tr=0
    ·have hge:¬ (st:Int)<fuel:=fun h=>hgo ⟨h0,h⟩
     refine rr ?_;refine dr [0,1,2,3,4,6,5,7,8,9] [3] [0] ?_;refine rr ?_;refine cld (hus) ?_;intro z _;refine rrs ?_;exact en (y.oa,y.oc,z.1,z.2) trivial
    ·skip
     refine rr ?_;refine dr [0,1,2,3,4,6,5,7,8,9] [3] [0] ?_;refine rr ?_;refine cld (hus) ?_;intro z _;refine rrs ?_;exact en (y.oa,y.oc,z.1,z.2) trivial
end Go.Proofs.YtkolmklfgbimoaaGreatDoor
namespace Go.Proofs.YtkolmklfgbimoaaGreatDoor
open Go
def Goes (code:List In) (k:Nat) (m m':MS):Prop:=∀ f,runQ code (k+f) m=((runQ code f m').1,(runQ code f m').2.1+k,(runQ code f m').2.2)
theorem Goes.rf (code:List In) (m:MS):Goes code 0 m m:=fun f=>by rw [Nat.zero_add];simp
theorem Goes.tr {code:List In} {j k n:Nat} {a b c:MS} (h:Goes code j a b) (g:Goes code k b c) (hn:n=j+k:=by rfl):Goes code n a c:=by
 subst hn;intro f;rw [Nat.add_assoc,h,g];simp only [Prod.mk.injEq,true_and,and_true];omega
theorem Goes.one {code:List In} {m m':MS} (h:stepQ code m=(0,m')):Goes code 1 m m':=by
 intro f;rw [Nat.add_comm,runQ_succ,h];simp
def stepI (i:In) (m:MS):Int×MS:=
 if (actQ i m).1≠0 then actQ i m else
 if (reckonQ i (rgQ (actQ i m).2 i.b) (rgQ (actQ i m).2 i.c)).2.1≠0 then ((reckonQ i (rgQ (actQ i m).2 i.b) (rgQ (actQ i m).2 i.c)).2.1,(actQ i m).2) else
 (0,nextQ i (if (reckonQ i (rgQ (actQ i m).2 i.b) (rgQ (actQ i m).2 i.c)).2.2 then setQ i.a (reckonQ i (rgQ (actQ i m).2 i.b) (rgQ (actQ i m).2 i.c)).1 (actQ i m).2 else (actQ i m).2))
theorem step_fetch {code:List In} {m:MS} {i:In} (h0:0≤m.pc) (hi:code[m.pc.toNat]? = some i) (hg:goodI i=true):stepQ code m=stepI i m:=by
 unfold stepQ stepI;rw [if_neg (by omega),hi];dsimp only;rw [hg,if_neg (by decide)]
theorem run_stop {code:List In} {m m':MS} {t:Int} {f:Nat} (h:stepQ code m=(t,m')) (ht:t≠0) (hf:1≤f):runQ code f m=(t,1,m'):=by
 obtain ⟨g,rfl⟩:∃ g,f=g+1:=⟨f-1,by omega⟩
 rw [runQ_succ,h,if_neg ht]
theorem Goes.more {code:List In} {k:Nat} {a b c:MS} (h:Goes code 1 a b) (g:Goes code k b c):Goes code (k+1) a c:=h.tr g (Nat.add_comm _ _)
theorem goes1 {code:List In} {R M I O:List Int} {p:Int} {i:In} {m':MS} (h0:decide (0≤p)=true) (hi:code[p.toNat]? = some i) (hg:goodI i=true) (hs:stepI i ⟨R,M,p,I,O⟩=(0,m')):Goes code 1 ⟨R,M,p,I,O⟩ m':=
 Goes.one ((step_fetch (by simpa using h0) hi hg).trans hs)
theorem stop1 {code:List In} {R M I O:List Int} {p:Int} {i:In} {m':MS} {t:Int} {f:Nat} (h0:decide (0≤p)=true) (hi:code[p.toNat]? = some i) (hg:goodI i=true) (hs:stepI i ⟨R,M,p,I,O⟩=(t,m')) (ht:t≠0) (hf:1≤f):runQ code f ⟨R,M,p,I,O⟩=(t,1,m'):=
 run_stop ((step_fetch (by simpa using h0) hi hg).trans hs) ht hf
theorem Goes.stop {code:List In} {k f:Nat} {a b c:MS} {t:Int} (h:Goes code k a b) (hs:∀ f,1≤f→runQ code f b=(t,1,c)) (hf:k<f):runQ code f a=(t,(k:Int)+1,c):=by
 obtain ⟨g,rfl⟩:∃ g,f=k+g:=⟨f-k,by omega⟩
 rw [h,hs g (by omega)];simp only [Prod.mk.injEq,true_and,and_true];omega
theorem w32_tru (b:Bool):w32 (truQ b)=truQ b:=by cases b <;> exact w32_id (by decide)
theorem truQ_t:truQ true=1:=rfl
theorem truQ_f:truQ false=0:=rfl
def Stops (code:List In) (m:MS) (t:Int) (out:List Int):Prop:=∀ f,1≤f→∃ c,runQ code f m=(t,1,c)∧c.out=out
theorem w32_0:w32 0=0:=w32_id (by decide)
theorem w32_1:w32 1=1:=w32_id (by decide)
theorem w32_w32 (n:Int):w32 (w32 n)=w32 n:=w32_id (w32_in n)
theorem ms20 (inp:List Int):ms0 20 inp=⟨[0,0,0,0,0,0,0,0,0,0,0,0,0,0,0,0,0,0,0,0,0,0,0,0,0,0,0,0,0,0,0,0],[0,0,0,0,0,0,0,0,0,0,0,0,0,0,0,0,0,0,0,0],0,inp,[]⟩:=rfl
def eccC:List In:=[⟨17,0,0,0,1⟩,⟨10,29,0,0,20⟩,⟨20,0,0,0,1⟩,⟨13,4,0,0,0⟩,⟨12,8,0,0,0⟩,⟨10,9,0,0,0⟩,⟨8,8,9,8,0⟩,⟨15,8,0,0,10⟩,⟨20,0,0,0,1⟩,⟨13,4,0,0,1⟩,⟨12,8,0,0,1⟩,⟨1,4,8,0,0⟩,⟨20,0,0,0,2⟩,⟨12,8,0,0,0⟩,⟨10,9,0,0,1⟩,⟨2,8,8,9,0⟩,⟨13,8,0,0,0⟩,⟨17,0,0,0,4⟩,⟨20,0,0,0,0⟩]
def eccS (r4 r8 r9 k x:Int) (I O:List Int):MS:=⟨[0,0,0,0,r4,0,0,0,r8,r9,0,0,0,0,0,0,0,0,0,0,0,0,0,0,0,0,0,0,0,20,0,0],[k,x,0,0,0,0,0,0,0,0,0,0,0,0,0,0,0,0,0,0],4,I,O⟩
theorem ecc_round (r4 r8 r9 x v:Int) (k:Nat) (I O:List Int) (hk:k<100) (hv:w32 v=v) (ho:¬ 10000≤O.length):∃ a b c,Goes eccC 14 (eccS r4 r8 r9 ((k+1:Nat):Int) x (v::I) O) (eccS a b c (k:Int) v I (O++[v])):=by
 have h0:(0:Int)<(k:Int)+1:=by omega
 have h1:w32 ((k:Int)+1)=(k:Int)+1:=w32_id (by omega);have h2:w32 (k:Int)=(k:Int):=w32_id (by omega);have h3:((k:Int)+1-1)=(k:Int):=by omega
 unfold eccS;rw [Int.natCast_add,show ((1:Nat):Int)=1 from rfl];refine ⟨?a9,?b9,?c9,?d9⟩
 case d9=>
  iterate 14 (refine Goes.more (goes1 rfl rfl (by first | rfl | assumption) (by simp [stepI,actQ,sysQ,loadQ,reckonQ,reckQ,nextQ,rgQ,setQ,w32_w32,w32_tru,truQ_t,truQ_f,w32_0,w32_1,List.getD,h0,h1,h2,h3,hv,ho];try rfl)) ?_)
  exact Goes.rf _ _
theorem ecc_loop:∀ (l:List Int) (r4 r8 r9 x:Int) (O:List Int),l.length≤60→O.length+l.length≤1000→(∀ v∈l,w32 v=v)→∃ a b c y,Goes eccC (14*l.length) (eccS r4 r8 r9 (l.length:Int) x l O) (eccS a b c 0 y [] (O++l))
 | [],r4,r8,r9,x,O,_,_,_=>⟨r4,r8,r9,x,by rw [List.append_nil];exact Goes.rf _ _⟩
 | v::l,r4,r8,r9,x,O,h1,h2,h3=>by
  simp only [List.length_cons] at h1 h2 ⊢;obtain ⟨a,b,c,hr⟩:=ecc_round r4 r8 r9 x v l.length l O (by omega) (h3 v (by simp)) (by omega);obtain ⟨a2,b2,c2,y,hl⟩:=ecc_loop l a b c v (O++[v]) (by omega) (by simp;omega) (fun u hu=>h3 u (by simp [hu]));rw [List.append_assoc] at hl;exact ⟨a2,b2,c2,y,hr.tr hl (by omega)⟩
theorem ecc_start (n:Int) (l:List Int) (hn:w32 n=n):Goes eccC 4 (ms0 20 (n::l)) (eccS n 0 0 n 0 l []):=by
 have w20:w32 20=20:=w32_id (by decide);rw [ms20];unfold eccS
 iterate 4 (refine Goes.more (goes1 rfl rfl (by first | rfl | assumption) (by simp [stepI,actQ,sysQ,loadQ,reckonQ,reckQ,nextQ,rgQ,setQ,w32_w32,w32_tru,truQ_t,truQ_f,w32_0,w32_1,List.getD,hn,w20];try rfl)) ?_)
 exact Goes.rf _ _
theorem ecc_end (r4 r8 r9 x:Int) (O:List Int):∃ m,Goes eccC 4 (eccS r4 r8 r9 0 x [] O) m∧Stops eccC m 1 O:=by
 unfold eccS;refine ⟨?m7,?a7,?b7⟩
 case a7=>
  iterate 4 (refine Goes.more (goes1 rfl rfl (by first | rfl | assumption) (by simp [stepI,actQ,sysQ,loadQ,reckonQ,reckQ,nextQ,rgQ,setQ,w32_w32,w32_tru,truQ_t,truQ_f,w32_0,w32_1,List.getD];try rfl)) ?_)
  exact Goes.rf _ _
 exact fun f hf=>⟨_,stop1 rfl rfl rfl (by simp [stepI,actQ,sysQ,loadQ,reckonQ,reckQ,nextQ,rgQ,setQ,w32_w32,w32_tru,truQ_t,truQ_f,w32_0,w32_1,List.getD];try rfl) (by decide) hf,rfl⟩
theorem seq_exN {code:List In} {n:Nat} {inp out:List Int} {fuel k:Nat} {m:MS} {t:Int} (hc:code.length≤4096) (hn:n≤32000) (h:Goes code k (ms0 n inp) m) (hs:Stops code m t out) (hf:k<fuel):∃ u,seqQ code (n:Int) inp (fuel:Int)=(t,(k:Int)+1,out,u):=by
 obtain ⟨g,rfl⟩:∃ g,fuel=k+g:=⟨fuel-k,by omega⟩
 obtain ⟨c,hc1,hc2⟩:=hs g (by omega);refine ⟨usedQ c.mem,?_⟩;unfold seqQ;rw [if_neg (by omega)];dsimp only;rw [Int.toNat_natCast,Int.toNat_natCast,h,hc1,hc2];dsimp only;rw [Int.add_comm]
theorem ecc_run (l:List Int) (hl:l.length≤40) (h:∀ v∈l,w32 v=v):∃ n u,seqQ eccC (20:Nat) ((l.length:Int)::l) (5000:Nat)=(1,n,l,u)∧n≤1000∧0≤n:=by
 obtain ⟨a,b,c,y,h1⟩:=ecc_loop l (l.length:Int) 0 0 0 [] (by omega) (by simp;omega) h;obtain ⟨m,h2,h3⟩:=ecc_end a b c y ([]++l);have h4:=((ecc_start (l.length:Int) l (w32_id (by omega))).tr h1 rfl).tr h2 rfl;obtain ⟨u,hu⟩:=seq_exN (n:=20) (fuel:=5000) (by decide) (by decide) h4 h3 (by omega);exact ⟨_,u,hu,by omega,by omega⟩
end Go.Proofs.YtkolmklfgbimoaaGreatDoor
namespace Go.Proofs.YtkolmklfgbimoaaGreatDoor.Sc
open Go Go.Sx Go.Sx.Chunk
def isLetter (c:Int):Bool:=(decide (97≤c) && decide (c≤122)) || (decide (65≤c) && decide (c≤90))
def isDigit (c:Int):Bool:=decide (48≤c) && decide (c≤57)
theorem digitC (c:Int):FnC (α:=Unit) Tryz.prog 118 [.int .u8 c] [] [] (fun _=>.bool (isDigit c)) (fun _=>[]) (fun _=>True):=by
 refine fn_intro Tryz.func118 Tryz.ntmps118 rfl rfl rfl (fun w0=>?_);try simp only [Sx.ap1,Sx.ap2,Sx.ap3]
 by_cases h:48≤c
 ·skip
  refine rr ?_;refine we () [] trivial (hv:=?_);simp only [isDigit,packR,h,decide_true,Bool.true_and]
 ·skip
  refine rr ?_;refine we () [] trivial (hv:=?_);simp [isDigit,packR,h]
theorem letterC (c:Int):FnC (α:=Unit) Tryz.prog 115 [.int .u8 c] [] [] (fun _=>.bool (isLetter c)) (fun _=>[]) (fun _=>True):=by
 refine fn_intro Tryz.func115 Tryz.ntmps115 rfl rfl rfl (fun w0=>?_);try simp only [Sx.ap1,Sx.ap2,Sx.ap3]
 by_cases h:97≤c
 ·by_cases h2:c≤122
  ·skip
   refine rr ?_;refine we () [] trivial (hv:=?_);simp [isLetter,packR,h,h2]
  ·skip
   refine rr ?_;refine we () [] trivial (hv:=?_);simp [isLetter,packR,h,h2]
   intros;omega
 ·by_cases h3:65≤c
  ·skip
   refine rr ?_;refine we () [] trivial (hv:=?_);simp [isLetter,packR,h,h3]
  ·skip
   refine rr ?_;refine we () [] trivial (hv:=?_);simp [isLetter,packR,h,h3]
theorem ldC (c:Int):FnC (α:=Unit) Tryz.prog 117 [.int .u8 c] [] [] (fun _=>.bool (isLetter c || isDigit c)) (fun _=>[]) (fun _=>True):=by
 refine fn_intro Tryz.func117 Tryz.ntmps117 rfl rfl rfl (fun w0=>?_);refine rrs ?_;refine ca [] (letterC c) ?_;intro x hx;try simp only [Sx.ap1,Sx.ap2,Sx.ap3]
 cases h:isLetter c with
 | true=>
  refine rr ?_;exact we () [] trivial
 | false=>
  refine rr ?_;refine ca [] (digitC c) ?_;intro x hx;refine rrs ?_;refine we () [] trivial (hv:=?_);simp [packR]
def idxB (s:ByteArray) (c:Int):Int:=Lib.indexByte s.data.toList c.toNat.toUInt8
theorem ext27 (s:ByteArray) (c:Int) (w:World):(callFunc 163 #[.string s,.int .u8 c]).run Tryz.prog w = .ok (.value (.int .i64 (idxB s c))) w:=by
 rw [run_callFunc_extern Tryz.func163 (by kernel_rfl) (by kernel_rfl) (by kernel_rfl) (e:=Extern.BytealgIndexByte.indexByte) (by kernel_rfl),Lib.run_indexByteString];rfl
theorem idx19 (s:ByteArray) (c:Int):FnC (α:=Unit) Tryz.prog 114 [.string s,.int .u8 c] [] [] (fun _=>.int .i64 (idxB s c)) (fun _=>[]) (fun _=>True):=by
 refine fn_intro Tryz.func114 Tryz.ntmps114 rfl rfl rfl (fun w0=>?_);refine rrs ?_;refine w_g (g_call rfl (ext27 s c)) rfl ?_;refine rr ?_;exact we () [] trivial
theorem idxC (s:ByteArray) (c:Int):FnC (α:=Unit) Tryz.prog 58 [.string s,.int .u8 c] [] [] (fun _=>.int .i64 (idxB s c)) (fun _=>[]) (fun _=>True):=by
 refine fn_intro Tryz.func58 Tryz.ntmps58 rfl rfl rfl (fun w0=>?_);refine rrs ?_;refine ca [] (idx19 s c) ?_;intro x hx;refine rrs ?_;exact we () [] trivial
def hasP (s p:ByteArray):Bool:=decide (p.size≤s.size) && decide (s.extract 0 p.size=p)
theorem pre29 (s p:ByteArray):FnC (α:=Unit) Tryz.prog 210 [.string s,.string p] [] [] (fun _=>.bool (hasP s p)) (fun _=>[]) (fun _=>True):=by
 refine fn_intro Tryz.func210 Tryz.ntmps210 rfl rfl rfl (fun w0=>?_);try simp only [Sx.ap1,Sx.ap2,Sx.ap3]
 by_cases h:p.size≤s.size
 ·skip
  refine rr ?_;refine we () [] trivial (hv:=?_);simp [packR,hasP,h]
 ·skip
  refine rr ?_;refine we () [] trivial (hv:=?_);simp [packR,hasP,h]
theorem preC (s p:ByteArray):FnC (α:=Unit) Tryz.prog 164 [.string s,.string p] [] [] (fun _=>.bool (hasP s p)) (fun _=>[]) (fun _=>True):=by
 refine fn_intro Tryz.func164 Tryz.ntmps164 rfl rfl rfl (fun w0=>?_);refine rrs ?_;refine ca [] (pre29 s p) ?_;intro x hx;refine rrs ?_;exact we () [] trivial
def txt (s:ByteArray):List UInt8:=s.data.toList
theorem txt_len (s:ByteArray):(txt s).length=s.size:=by simp [txt]
theorem txt_get (s:ByteArray) (i:Nat) (b:UInt8) (h:(txt s)[i]? = some b):s[i]? = some b:=by
 have hi:i<s.size:=by rw [← txt_len];exact (List.getElem?_eq_some_iff.1 h).1
 simp only [txt] at h;rw [getElem?_pos s i hi];simp only [Array.getElem?_toList] at h;rw [← h];simp [ByteArray.getElem_eq_getElem_data,hi]
theorem drop_cons {l:List UInt8} {i:Nat} {b:UInt8} (h:l[i]? = some b):l.drop i=b::l.drop (i+1):=by
 obtain ⟨hi,hb⟩:=List.getElem?_eq_some_iff.1 h;rw [List.drop_eq_getElem_cons hi,hb]
theorem get_some {l:List UInt8} {i:Nat} (h:i<l.length):∃ b,l[i]? = some b:=⟨l[i],by simp [h]⟩
def runL (p:Int→Bool):List UInt8→Nat
 | []=>0
 | b::l=>if p (b.toNat:Int) then runL p l+1 else 0
theorem runL_le (p:Int→Bool):∀ l,runL p l≤l.length
 | []=>Nat.le_refl _
 | b::l=>by
  simp only [runL];split
  ·have:=runL_le p l;simp;omega
  ·simp
theorem runC (s:ByteArray) (a:Nat) (f:FuncId) (p:Int→Bool) (hp:∀ c,FnC (α:=Unit) Tryz.prog f [.int .u8 c] [] [] (fun _=>.bool (p c)) (fun _=>[]) (fun _=>True)) (ha:a≤s.size) (hs:s.size≤maxLen) :
  FnC (α:=Unit) Tryz.prog 116 [.string s,.int .i64 a,.func (.func f) #[] #[]] [] [] (fun _=>.int .i64 (runL p ((txt s).drop a))) (fun _=>[]) (fun _=>True):=by
 unfold maxLen at hs;refine fn_intro Tryz.func116 Tryz.ntmps116 rfl rfl rfl (fun w0=>?_);refine rrs ?_;refine w_loop (α:=Nat) (fun k=>[(0,.string s),(1,.int .i64 a),(2,.func (.func f) #[] #[]),(7,.int .i64 (k:Int))]) (fun _=>[]) (fun k=>a+k≤s.size∧runL p ((txt s).drop a)=k+runL p ((txt s).drop (a+k))) (fun k=>s.size-(a+k)) 0 ⟨rfl,rfl,rfl,rfl,trivial⟩ rfl ⟨ha,by simp⟩ ?_;rintro k ⟨hk,hr⟩ K1 hK1;by_cases hlt:a+k<s.size
 ·obtain ⟨b,hb⟩:=get_some (l:=txt s) (i:=a+k) (by rw [txt_len];exact hlt)
  have hb':s[((a:Int)+(k:Int)).toNat]? = some b:=by
   rw [show ((a:Int)+(k:Int)).toNat=a+k by omega];exact txt_get s _ b hb
  rw [drop_cons hb] at hr;simp only [runL] at hr;refine rr ?_;refine cav [] (hp (b.toNat:Int)) ?_;intro x hx;try simp only [Sx.ap1,Sx.ap2,Sx.ap3]
  cases hpb:p (b.toNat:Int) with
  | true=>
   rw [hpb] at hr;refine rr ?_;refine w_round hK1 (k+1) ⟨by omega,?_⟩ (by show s.size-(a+(k+1))<s.size-(a+k);omega) rfl ⟨rfl,rfl,rfl,rfl,trivial⟩;rw [hr,if_pos rfl,Nat.add_assoc a k 1];omega
  | false=>
   rw [hpb] at hr;refine rr ?_;refine we () [] trivial (hv:=?_);simp only [packR,hr];simp
 ·skip
  refine rr ?_;refine we () [] trivial (hv:=?_);rw [hr,List.drop_of_length_le (by rw [txt_len];omega)];simp [packR,runL]
def numL:List UInt8→Int→Int
 | [],n=>n
 | b::l,n=>if 10*n+((b.toNat:Int)-48)>32767 then -1 else numL l (10*n+((b.toNat:Int)-48))
theorem numberC (s:ByteArray) (hs:s.size≤maxLen) (hd:∀ b∈txt s,isDigit (b.toNat:Int)=true) :
  FnC (α:=Unit) Tryz.prog 120 [.string s] [] [] (fun _=>.int .i64 (numL (txt s) 0)) (fun _=>[]) (fun _=>True):=by
 unfold maxLen at hs;refine fn_intro Tryz.func120 Tryz.ntmps120 rfl rfl rfl (fun w0=>?_);refine rrs ?_;refine w_loop (α:=Nat×Int) (fun x=>[(0,.string s),(3,.int .i64 x.2),(6,.int .i64 s.size),(7,.int .i64 (x.1:Int))]) (fun _=>[]) (fun x=>x.1≤s.size∧0≤x.2∧x.2≤32767∧numL (txt s) 0=numL ((txt s).drop x.1) x.2) (fun x=>s.size-x.1) (0,0) ⟨rfl,rfl,rfl,rfl,trivial⟩ rfl ⟨Nat.zero_le _,by decide,by decide,by simp⟩ ?_;rintro ⟨k,v⟩ ⟨hk,h0,h1,hr⟩ K1 hK1;dsimp only at hk h0 h1 hr ⊢;by_cases hlt:k<s.size
 ·obtain ⟨b,hb⟩:=get_some (l:=txt s) (i:=k) (by rw [txt_len];exact hlt)
  have hb':s[(k:Int).toNat]? = some b:=by
   rw [show (k:Int).toNat=k by omega];exact txt_get s _ b hb
  have hdig:isDigit (b.toNat:Int)=true:=hd b (List.mem_of_getElem? hb);simp only [isDigit,Bool.and_eq_true,decide_eq_true_eq] at hdig;rw [drop_cons hb] at hr;simp only [numL] at hr;by_cases hbig:10*v+((b.toNat:Int)-48)>32767
  ·rw [if_pos hbig] at hr;refine rr ?_;refine we () [] trivial (hv:=?_);simp only [packR,hr]
  ·rw [if_neg hbig] at hr;refine rr ?_;refine w_round hK1 (k+1,10*v+((b.toNat:Int)-48)) ⟨by show k+1≤s.size;omega,by show 0≤10*v+((b.toNat:Int)-48);omega,by show 10*v+((b.toNat:Int)-48)≤32767;omega,hr⟩ (by show s.size-(k+1)<s.size-k;omega) rfl ⟨rfl,rfl,rfl,rfl,trivial⟩
 ·skip
  refine rr ?_;refine we () [] trivial (hv:=?_);rw [hr,List.drop_of_length_le (by rw [txt_len];omega)];simp [packR,numL]
def two0:ByteArray:=⟨#[58,61]⟩
def two1:ByteArray:=⟨#[60,62]⟩
def two2:ByteArray:=⟨#[60,61]⟩
def two3:ByteArray:=⟨#[62,61]⟩
def ones:ByteArray:=⟨#[43,45,42,61,60,62,40,41,91,93,59,44,46,58]⟩
def signT (r:ByteArray) (c:Int):List ByteArray→Nat
 | []=>if idxB ones c≥0 then 1 else 0
 | t::l=>if hasP r t then 2 else signT r c l
def twos:List ByteArray:=[two0,two1,two2,two3]
def signV (r:ByteArray) (c:Int):Nat:=signT r c twos
theorem signC (s:ByteArray) (a:Nat) (b:UInt8) (hb:(txt s)[a]? = some b) :
  FnC (α:=Unit) Tryz.prog 121 [.string s,.int .i64 a] [] [] (fun _=>.int .i64 (signV (s.extract a s.size) (b.toNat:Int))) (fun _=>[]) (fun _=>True):=by
 have ha:a<s.size:=by rw [← txt_len];exact (List.getElem?_eq_some_iff.1 hb).1
 have hb':s[(a:Int).toNat]? = some b:=by
  rw [show (a:Int).toNat=a by omega];exact txt_get s _ b hb
 generalize hv:signV (s.extract a s.size) (b.toNat:Int)=v;refine fn_intro Tryz.func121 Tryz.ntmps121 rfl rfl rfl (fun w0=>?_);refine rrs ?_;intro p _;refine rr ?_;refine w_loop (α:=Nat) (fun k=>[(0,.string s),(1,.int .i64 a),(7,.slice (some ⟨p,0,none⟩) 4 4),(8,.int .i64 4),(9,.int .i64 (k:Int))]) (fun _=>[blk p [.string two0,.string two1,.string two2,.string two3] 9]) (fun k=>k≤4∧signT (s.extract a s.size) (b.toNat:Int) (twos.drop k)=v) (fun k=>4-k) 0 ⟨rfl,rfl,rfl,rfl,rfl,trivial⟩ rfl ⟨by decide,hv⟩ ?_;rintro k ⟨hk,hr⟩ K1 hK1
 match k,hk,hr,hK1 with
 | 0,hk,hr,hK1=>
  refine rr ?_;refine ca [] (preC (s.extract a s.size) two0) ?_;intro x hx;try simp only [Sx.ap1,Sx.ap2,Sx.ap3]
  have hst:signT (s.extract a s.size) (b.toNat:Int) (twos.drop 0)=if hasP (s.extract a s.size) two0 then 2 else signT (s.extract a s.size) (b.toNat:Int) (twos.drop 1):=rfl
  rw [hst] at hr;cases h:hasP (s.extract a s.size) two0 with
  | true=>
   rw [h] at hr;refine rr ?_;refine we () [] trivial (hv:=?_);rw [← hr];rfl
  | false=>
   rw [h] at hr;refine rr ?_;refine w_round hK1 1 ⟨by omega,?_⟩ (by show 4-1<4-0;omega) rfl ⟨rfl,rfl,rfl,rfl,rfl,trivial⟩;exact hr
 | 1,hk,hr,hK1=>
  refine rr ?_;refine ca [] (preC (s.extract a s.size) two1) ?_;intro x hx;try simp only [Sx.ap1,Sx.ap2,Sx.ap3]
  have hst:signT (s.extract a s.size) (b.toNat:Int) (twos.drop 1)=if hasP (s.extract a s.size) two1 then 2 else signT (s.extract a s.size) (b.toNat:Int) (twos.drop 2):=rfl
  rw [hst] at hr;cases h:hasP (s.extract a s.size) two1 with
  | true=>
   rw [h] at hr;refine rr ?_;refine we () [] trivial (hv:=?_);rw [← hr];rfl
  | false=>
   rw [h] at hr;refine rr ?_;refine w_round hK1 2 ⟨by omega,?_⟩ (by show 4-2<4-1;omega) rfl ⟨rfl,rfl,rfl,rfl,rfl,trivial⟩;exact hr
 | 2,hk,hr,hK1=>
  refine rr ?_;refine ca [] (preC (s.extract a s.size) two2) ?_;intro x hx;try simp only [Sx.ap1,Sx.ap2,Sx.ap3]
  have hst:signT (s.extract a s.size) (b.toNat:Int) (twos.drop 2)=if hasP (s.extract a s.size) two2 then 2 else signT (s.extract a s.size) (b.toNat:Int) (twos.drop 3):=rfl
  rw [hst] at hr;cases h:hasP (s.extract a s.size) two2 with
  | true=>
   rw [h] at hr;refine rr ?_;refine we () [] trivial (hv:=?_);rw [← hr];rfl
  | false=>
   rw [h] at hr;refine rr ?_;refine w_round hK1 3 ⟨by omega,?_⟩ (by show 4-3<4-2;omega) rfl ⟨rfl,rfl,rfl,rfl,rfl,trivial⟩;exact hr
 | 3,hk,hr,hK1=>
  refine rr ?_;refine ca [] (preC (s.extract a s.size) two3) ?_;intro x hx;try simp only [Sx.ap1,Sx.ap2,Sx.ap3]
  have hst:signT (s.extract a s.size) (b.toNat:Int) (twos.drop 3)=if hasP (s.extract a s.size) two3 then 2 else signT (s.extract a s.size) (b.toNat:Int) (twos.drop 4):=rfl
  rw [hst] at hr;cases h:hasP (s.extract a s.size) two3 with
  | true=>
   rw [h] at hr;refine rr ?_;refine we () [] trivial (hv:=?_);rw [← hr];rfl
  | false=>
   rw [h] at hr;refine rr ?_;refine w_round hK1 4 ⟨by omega,?_⟩ (by show 4-4<4-3;omega) rfl ⟨rfl,rfl,rfl,rfl,rfl,trivial⟩;exact hr
 | 4,hk,hr,hK1=>
  refine rr ?_;refine ca [] (idxC ones (b.toNat:Int)) ?_;intro x hx;try simp only [Sx.ap1,Sx.ap2,Sx.ap3]
  have hst:signT (s.extract a s.size) (b.toNat:Int) (twos.drop 4)=if idxB ones (b.toNat:Int)≥0 then 1 else 0:=rfl
  rw [hst] at hr;by_cases h:idxB ones (b.toNat:Int)≥0
  ·rw [if_pos h] at hr;refine rr ?_;refine we () [] trivial (hv:=?_);rw [← hr];rfl
  ·rw [if_neg h] at hr;refine rr ?_;refine we () [] trivial (hv:=?_);rw [← hr];rfl
 | k+5,hk,hr,hK1=>omega
def bl (l:List UInt8):List Value:=l.map fun b=>.int .u8 (b.toNat:Int)
theorem bl_len (l:List UInt8):(bl l).length=l.length:=by simp [bl]
theorem bl_get {l:List UInt8} {i:Nat} {b:UInt8} (h:l[i]? = some b):(bl l)[i]? = some (.int .u8 (b.toNat:Int)):=by simp [bl,h]
def lowB (b:UInt8):UInt8:=if 65≤b.toNat∧b.toNat≤90 then b+32 else b
def lowS (s:ByteArray):ByteArray:=⟨((txt s).map lowB).toArray⟩
theorem lowB_yes {b:UInt8} (h:65≤b.toNat∧b.toNat≤90):((lowB b).toNat:Int)=(b.toNat:Int)-65+97:=by
 unfold lowB;rw [if_pos h];have:(b+32).toNat=(b.toNat+32) % 256:=by simp [UInt8.toNat_add]
 omega
def lowK (l:List UInt8) (k:Nat):List UInt8:=(l.take k).map lowB++l.drop k
theorem lowK_len (l:List UInt8) (k:Nat):(lowK l k).length=l.length:=by simp [lowK];omega
theorem lowK_get {l:List UInt8} {k:Nat} {b:UInt8} (h:l[k]? = some b):(lowK l k)[k]? = some b:=by
 have hk:k<l.length:=(List.getElem?_eq_some_iff.1 h).1;unfold lowK;rw [List.getElem?_append_right (by simp;omega)];simp [Nat.min_eq_left (Nat.le_of_lt hk),h]
theorem lowK_succ {l:List UInt8} {k:Nat} {b:UInt8} (h:l[k]? = some b):lowK l (k+1)=(lowK l k).set k (lowB b):=by
 obtain ⟨hk,hb⟩:=List.getElem?_eq_some_iff.1 h;unfold lowK;have hm:((l.take k).map lowB).length=k:=by simp;omega
 rw [List.take_succ_eq_append_getElem hk,hb,List.set_append_right _ _ (by omega),hm,Nat.sub_self,drop_cons h];simp
theorem lowerC (s:ByteArray) (hs:s.size≤maxLen) :
  FnC (α:=Unit) Tryz.prog 119 [.string s] [] [] (fun _=>.string (lowS s)) (fun _=>[]) (fun _=>True):=by
 unfold maxLen at hs;refine fn_intro Tryz.func119 Tryz.ntmps119 rfl rfl rfl (fun w0=>?_);refine rrs ?_;rintro ⟨p,c⟩ ⟨hc,hm⟩;dsimp only at hc hm ⊢;have hm:=hm (by unfold maxLen;omega);unfold maxLen at hm;generalize List.replicate (c-s.size) (Value.int .u8 0)=rest;refine rr ?_;refine w_loop (α:=Nat) (fun k=>[(3,.slice (some ⟨p,0,none⟩) s.size c),(8,.slice (some ⟨p,0,none⟩) s.size c),(9,.int .i64 s.size),(10,.int .i64 (k:Int))]) (fun k=>[fro p (bl (lowK (txt s) k)++rest) 5]) (fun k=>k≤s.size) (fun k=>s.size-k) 0 ⟨rfl,rfl,rfl,rfl,trivial⟩ rfl (Nat.zero_le _) ?_;rintro k hk K1 hK1;by_cases hlt:k<s.size
 ·obtain ⟨b,hb⟩:=get_some (l:=txt s) (i:=k) (by rw [txt_len];exact hlt)
  have hcell:(bl (lowK (txt s) k)++rest)[0+(k:Int).toNat*1]? = some (.int .u8 (b.toNat:Int)):=by
   rw [show 0+(k:Int).toNat*1=k by omega,List.getElem?_append_left (by rw [bl_len,lowK_len,txt_len];exact hlt)];exact bl_get (lowK_get hb)
  have hlen:0+(k:Int).toNat*1<(bl (lowK (txt s) k)++rest).length:=(List.getElem?_eq_some_iff.1 hcell).1;have hb255:b.toNat<256:=b.toNat_lt
  have hset:∀ v,v=Value.int .u8 ((lowB b).toNat:Int)→(bl (lowK (txt s) k)++rest).set (0+(k:Int).toNat*1) v=bl (lowK (txt s) (k+1))++rest:=by
   intro v hv;rw [hv,show 0+(k:Int).toNat*1=k by omega,List.set_append_left _ _ (by rw [bl_len,lowK_len,txt_len];exact hlt),lowK_succ hb];simp [bl,List.map_set]
  by_cases hcap:65≤b.toNat∧b.toNat≤90
  ·skip
   refine rr ?_;refine w_round hK1 (k+1) (by show k+1≤s.size;omega) (by show s.size-(k+1)<s.size-k;omega) ?_ ⟨rfl,rfl,rfl,rfl,trivial⟩;show [fro p _ 5]=[fro p _ 5]
   rw [hset _ (by rw [lowB_yes hcap])]
  ·have hno:lowB b=b:=by unfold lowB;rw [if_neg hcap]
   have hsame:bl (lowK (txt s) (k+1))++rest=bl (lowK (txt s) k)++rest:=by
    obtain ⟨hi,hv⟩:=List.getElem?_eq_some_iff.1 hcell;rw [← hset _ (by rw [hno]),← hv,List.set_getElem_self]
   by_cases h65:65≤b.toNat
   ·skip
    refine rr ?_;refine w_round hK1 (k+1) (by show k+1≤s.size;omega) (by show s.size-(k+1)<s.size-k;omega) (by rw [hsame]) ⟨rfl,rfl,rfl,rfl,trivial⟩
   ·skip
    refine rr ?_;refine w_round hK1 (k+1) (by show k+1≤s.size;omega) (by show s.size-(k+1)<s.size-k;omega) (by rw [hsame]) ⟨rfl,rfl,rfl,rfl,trivial⟩
 ·obtain rfl:k=s.size:=by omega
  have hall:bl (lowK (txt s) s.size)++rest=bytC (lowS s)++rest:=by
   congr 1
   unfold lowK;rw [List.take_of_length_le (by rw [txt_len];omega),List.drop_of_length_le (by rw [txt_len];omega)];simp [bl,bytC,lowS]
  have hsz:s.size=(lowS s).size:=by
   show s.size=((txt s).map lowB).toArray.size
   simp [txt_len]
  rw [hall];refine rr ?_;exact we () [] trivial
def bs (l:List UInt8):ByteArray:=⟨l.toArray⟩
theorem txt_bs (l:List UInt8):txt (bs l)=l:=by simp [txt,bs]
theorem bs_txt (s:ByteArray):bs (txt s)=s:=by cases s;simp [txt,bs]
theorem bs_size (l:List UInt8):(bs l).size=l.length:=by rw [← txt_len,txt_bs]
theorem bs_inj {a b:List UInt8}:bs a=bs b↔a=b:=⟨fun h=>by rw [← txt_bs a,h,txt_bs],fun h=>by rw [h]⟩
theorem extract_bs (s:ByteArray) (a b:Nat):s.extract a b=bs (((txt s).drop a).take (b-a)):=by
 rw [← bs_txt (s.extract a b)]
 congr 1
 simp only [txt,ByteArray.data_extract,Array.toList_extract,List.extract_eq_take_drop]
theorem lowS_bs (s:ByteArray):lowS s=bs ((txt s).map lowB):=rfl
theorem hasP_bs (r q:List UInt8):hasP (bs r) (bs q)=q.isPrefixOf r:=by
 rw [Bool.eq_iff_iff,List.isPrefixOf_iff_prefix,List.prefix_iff_eq_take];simp only [hasP,Bool.and_eq_true,decide_eq_true_eq,bs_size,extract_bs,txt_bs,bs_inj,Nat.sub_zero,List.drop_zero];constructor
 ·rintro ⟨_,h⟩;exact h.symm
 ·intro h;refine ⟨?_,h.symm⟩;rw [h,List.length_take];omega
def two (a b:UInt8):Bool:=b == 61 && (a == 58 || a == 60 || a == 62) || a == 60 && b == 62
def onesL:List UInt8:=[43,45,42,61,60,62,40,41,91,93,59,44,46,58]
def signR:List UInt8→Nat
 | []=>0
 | [c]=>if onesL.contains c then 1 else 0
 | c::d::_=>if two c d then 2 else if onesL.contains c then 1 else 0
theorem indexByte_mem (l:List UInt8) (c:UInt8):(Lib.indexByte l c≥0)↔l.contains c=true:=by
 induction l with
 | nil=>simp [Lib.indexByte]
 | cons b l ih=>
  have hge:=Lib.indexByte_ge l c;simp only [Lib.indexByte,List.contains_cons,Bool.or_eq_true];by_cases hb:b=c
  ·subst hb;simp
  ·have h1:(b == c)=false:=by simpa using hb
   have h2:(c == b)=false:=by simpa using fun h:c=b=>hb h.symm
   simp only [h1,h2,Bool.false_eq_true,if_false,false_or];rw [← ih];split <;> rename_i h <;> simp at h <;> omega
theorem idxB_nat (s:ByteArray) (b:UInt8):idxB s (b.toNat:Int)=Lib.indexByte (txt s) b:=by
 unfold idxB txt
 congr 1
 simp
theorem signV_bs (c:UInt8) (r:List UInt8):signV (bs (c::r)) (c.toNat:Int)=signR (c::r):=by
 have h0:two0=bs [58,61]:=rfl;have h1:two1=bs [60,62]:=rfl;have h2:two2=bs [60,61]:=rfl;have h3:two3=bs [62,61]:=rfl;have h4:ones=bs onesL:=rfl;simp only [signV,twos,signT,h0,h1,h2,h3,h4,hasP_bs,idxB_nat,txt_bs,indexByte_mem];cases r with
 | nil=>simp [List.isPrefixOf,signR]
 | cons d r=>
  simp only [List.isPrefixOf,Bool.and_true,signR,two]
  have key:∀ (p1 p2 p3 p4 q:Bool),(p1 || p2 || p3 || p4)=q→(if p1=true then 2 else if p2=true then 2 else if p3=true then 2 else if p4=true then 2 else if onesL.contains c=true then 1 else 0)=if q=true then 2 else if onesL.contains c=true then 1 else 0:=by
   intro p1 p2 p3 p4 q h;subst h;cases p1 <;> cases p2 <;> cases p3 <;> cases p4 <;> simp
  apply key;rw [Bool.eq_iff_iff];simp only [Bool.or_eq_true,Bool.and_eq_true,beq_iff_eq];constructor
  ·rintro (((⟨rfl,rfl⟩ | ⟨rfl,rfl⟩) | ⟨rfl,rfl⟩) | ⟨rfl,rfl⟩) <;> simp
  ·rintro (⟨rfl,(rfl | rfl) | rfl⟩ | ⟨rfl,rfl⟩) <;> simp
structure Tk where
 mk ::
 (kind:Int) (text:List UInt8) (num:Int)
deriving DecidableEq
def Tk.cells (t:Tk) (at':Int):List Value:=[.int .i64 t.kind,.string (bs t.text),.int .i64 t.num,.int .i64 at']
def tk0:Tk:=⟨0,[],0⟩
def isLD (c:Int):Bool:=isLetter c || isDigit c
def tokR:List UInt8→Tk×Nat×Int
 | []=>(tk0,0,2)
 | c::r=>
  if isLetter (c.toNat:Int) then
   (if runL isLD (c::r)>16 then (tk0,0,4) else (⟨1,((c::r).take (runL isLD (c::r))).map lowB,0⟩,runL isLD (c::r),0))
  else if isDigit (c.toNat:Int) then
   (if numL ((c::r).take (runL isDigit (c::r))) 0<0 then (tk0,0,3) else (⟨2,[],numL ((c::r).take (runL isDigit (c::r))) 0⟩,runL isDigit (c::r),0))
  else
   (if signR (c::r)=0 then (tk0,0,2) else (⟨3,(c::r).take (signR (c::r)),0⟩,signR (c::r),0))
def isBlank (c:UInt8):Bool:=c == 32 || c == 9 || c == 10 || c == 13
def scanR:Nat→Nat→List UInt8→List (Tk×Nat)×Nat×Int
 | _,_,[]=>([],0,0)
 | 0,_,_=>([],0,0)
 | f+1,p,c::r=>
  if isBlank c then scanR f (p+1) r
  else if c=123 then
   (if Lib.indexByte (c::r) 125<0 then ([],p,2) else scanR f (p+(Lib.indexByte (c::r) 125).toNat+1) ((c::r).drop ((Lib.indexByte (c::r) 125).toNat+1)))
  else if (tokR (c::r)).2.2≠0 then ([],p,(tokR (c::r)).2.2)
  else
   match scanR f (p+(tokR (c::r)).2.1) ((c::r).drop (tokR (c::r)).2.1) with
   | (l,q,e)=>if e=0 then (((tokR (c::r)).1,p)::l,q,e) else ([],q,e)
theorem runL_pos {p:Int→Bool} {c:UInt8} {r:List UInt8} (h:p (c.toNat:Int)=true):1≤runL p (c::r):=by simp [runL,h]
theorem signR_le (c:UInt8) (r:List UInt8):signR (c::r)≤(c::r).length:=by
 cases r with
 | nil=>simp only [signR];split <;> simp
 | cons d r=>simp only [signR];split <;> (try split) <;> simp
theorem tokR_len {c:UInt8} {r:List UInt8} (h:(tokR (c::r)).2.2=0):1≤(tokR (c::r)).2.1∧(tokR (c::r)).2.1≤(c::r).length:=by
 simp only [tokR] at h ⊢;split
 ·rename_i h1;rw [if_pos h1] at h;split
  ·rename_i h2;rw [if_pos h2] at h;simp at h
  ·exact ⟨runL_pos (by simp [isLD,h1]),runL_le _ _⟩
 ·rename_i h1;rw [if_neg h1] at h;split
  ·rename_i h2;rw [if_pos h2] at h;split
   ·rename_i h3;rw [if_pos h3] at h;simp at h
   ·exact ⟨runL_pos h2,runL_le _ _⟩
  ·rename_i h2;rw [if_neg h2] at h;split
   ·rename_i h3;rw [if_pos h3] at h;simp at h
   ·rename_i h3;exact ⟨by show 1≤signR (c::r);omega,signR_le _ _⟩
theorem indexByte_lt (l:List UInt8) (c:UInt8):Lib.indexByte l c<l.length ∧ -1≤Lib.indexByte l c:=by
 refine ⟨?_,Lib.indexByte_ge l c⟩
 induction l with
 | nil=>simp [Lib.indexByte]
 | cons b l ih=>
  have hge:=Lib.indexByte_ge l c;simp only [Lib.indexByte];split
  ·simp
  ·split
   ·simp;omega
   ·simp only [List.length_cons];omega
theorem scanR_fuel:∀ (f g p:Nat) (l:List UInt8),l.length≤f→l.length≤g→scanR f p l=scanR g p l
 | f,g,p,[],_,_=>by simp [scanR]
 | 0,g,p,c::r,h,_=>by simp at h
 | f+1,0,p,c::r,_,h=>by simp at h
 | f+1,g+1,p,c::r,hf,hg=>by
  simp only [List.length_cons,Nat.add_le_add_iff_right] at hf hg;simp only [scanR];split
  ·exact scanR_fuel f g (p+1) r hf hg
  ·split
   ·split
    ·rfl
    ·exact scanR_fuel f g _ _ (by simp;omega) (by simp;omega)
   ·split
    ·rfl
    ·rename_i h;have:=tokR_len (c:=c) (r:=r) (by simpa using h);rw [scanR_fuel f g _ ((c::r).drop (tokR (c::r)).2.1) (by simp;omega) (by simp;omega)]
def tokV (a:Nat) (r:List UInt8):Value:=.tuple #[.agg (Tk.cells (tokR r).1 (if (tokR r).2.2=0 then (a:Int) else 0)).toArray,.int .i64 (tokR r).2.1,.int .i64 (tokR r).2.2]
theorem take_drop (s:ByteArray) (a k:Nat):s.extract a (a+k)=bs (((txt s).drop a).take k):=by
 rw [extract_bs,Nat.add_sub_cancel_left]
theorem rest_eq (s:ByteArray) (a:Nat):s.extract a s.size=bs ((txt s).drop a):=by
 rw [extract_bs,List.take_of_length_le];rw [List.length_drop,txt_len];exact Nat.le_refl _
theorem runL_all (p:Int→Bool):∀ (l:List UInt8) (b:UInt8),b∈l.take (runL p l)→p (b.toNat:Int)=true
 | [],b,h=>by simp at h
 | c::l,b,h=>by
  simp only [runL] at h;split at h
  ·rename_i hc;simp only [List.take_succ_cons,List.mem_cons] at h;rcases h with rfl | h
   ·exact hc
   ·exact runL_all p l b h
  ·simp at h
theorem tokenC (s:ByteArray) (a:Nat) (b:UInt8) (hs:s.size≤maxLen) (hb:(txt s)[a]? = some b) :
  FnC (α:=Unit) Tryz.prog 59 [.string s,.int .i64 a] [] [] (fun _=>tokV a ((txt s).drop a)) (fun _=>[]) (fun _=>True):=by
 have ha:a<s.size:=by rw [← txt_len];exact (List.getElem?_eq_some_iff.1 hb).1
 have hb':s[(a:Int).toNat]? = some b:=by
  rw [show (a:Int).toNat=a by omega];exact txt_get s _ b hb
 have hsz:=hs;unfold maxLen at hsz;have hdr:(txt s).drop a=b::(txt s).drop (a+1):=drop_cons hb;have hlen:((txt s).drop a).length=s.size-a:=by rw [List.length_drop,txt_len]
 refine fn_intro Tryz.func59 Tryz.ntmps59 rfl rfl rfl (fun w0=>?_);try simp only [Sx.ap1,Sx.ap2,Sx.ap3]
 generalize hv:tokV a ((txt s).drop a)=v;unfold tokV at hv;have hsv:signV (s.extract a s.size) (b.toNat:Int)=signR ((txt s).drop a):=by rw [rest_eq,hdr,signV_bs]
 have htk:tokR ((txt s).drop a)=if isLetter (b.toNat:Int) then
   (if runL isLD ((txt s).drop a)>16 then (tk0,0,4) else (⟨1,(((txt s).drop a).take (runL isLD ((txt s).drop a))).map lowB,0⟩,runL isLD ((txt s).drop a),0))
  else if isDigit (b.toNat:Int) then
   (if numL (((txt s).drop a).take (runL isDigit ((txt s).drop a))) 0<0 then (tk0,0,3) else (⟨2,[],numL (((txt s).drop a).take (runL isDigit ((txt s).drop a))) 0⟩,runL isDigit ((txt s).drop a),0))
  else
   (if signR ((txt s).drop a)=0 then (tk0,0,2) else (⟨3,((txt s).drop a).take (signR ((txt s).drop a)),0⟩,signR ((txt s).drop a),0)):=by
  rw [hdr];rfl
 have hemp:ByteArray.empty=bs []:=rfl;refine rr ?_;intro p _;refine rr ?_;refine ca [] (letterC (b.toNat:Int)) ?_;intro x hx;try simp only [Sx.ap1,Sx.ap2,Sx.ap3]
 cases hl:isLetter (b.toNat:Int) with
 | true=>
  rw [hl,if_pos rfl] at htk;refine rr ?_;refine ca [] (runC s a 117 isLD ldC (by omega) hs) ?_;intro x hx;try simp only [Sx.ap1,Sx.ap2,Sx.ap3]
  have hr:=runL_le isLD ((txt s).drop a);rw [hlen] at hr;generalize hk:runL isLD ((txt s).drop a)=k at hr htk;by_cases hk16:k>16
  ·rw [if_pos hk16] at htk;rw [htk] at hv;refine rr ?_;refine we () [] trivial (hv:=?_);rw [← hv];rfl
  ·rw [if_neg hk16] at htk;rw [htk] at hv;refine rr ?_
   have he:s.extract ((a:Int)).toNat ((a:Int)+(k:Int)).toNat=bs (((txt s).drop a).take k):=by
    rw [show ((a:Int)).toNat=a by omega,show ((a:Int)+(k:Int)).toNat=a+k by omega,take_drop]
   refine ca [] (lowerC (s.extract ((a:Int)).toNat ((a:Int)+(k:Int)).toNat) (by rw [he,bs_size];unfold maxLen;simp;omega)) ?_;intro x hx;refine rrs ?_;refine we () [] trivial (hv:=?_);rw [← hv,he,lowS_bs,txt_bs];rfl
 | false=>
  rw [hl,if_neg (by simp)] at htk;refine rr ?_;refine ca [] (digitC (b.toNat:Int)) ?_;intro x hx;try simp only [Sx.ap1,Sx.ap2,Sx.ap3]
  cases hl2:isDigit (b.toNat:Int) with
  | true=>
   rw [hl2,if_pos rfl] at htk;refine rr ?_;refine ca [] (runC s a 118 isDigit digitC (by omega) hs) ?_;intro x hx;try simp only [Sx.ap1,Sx.ap2,Sx.ap3]
   have hr:=runL_le isDigit ((txt s).drop a);have hall:=runL_all isDigit ((txt s).drop a);rw [hlen] at hr;generalize hk:runL isDigit ((txt s).drop a)=k at hr htk hall;refine rr ?_
   have he:s.extract ((a:Int)).toNat ((a:Int)+(k:Int)).toNat=bs (((txt s).drop a).take k):=by
    rw [show ((a:Int)).toNat=a by omega,show ((a:Int)+(k:Int)).toNat=a+k by omega,take_drop]
   refine ca [] (numberC (s.extract ((a:Int)).toNat ((a:Int)+(k:Int)).toNat) (by rw [he,bs_size];unfold maxLen;simp;omega) (by rw [he,txt_bs];exact hall)) ?_;intro x hx;try simp only [Sx.ap1,Sx.ap2,Sx.ap3]
   simp only [he,txt_bs];generalize numL (((txt s).drop a).take k) 0=nn at htk;by_cases hneg:nn<0
   ·rw [if_pos hneg] at htk;rw [htk] at hv;refine rr ?_;refine we () [] trivial (hv:=?_);rw [← hv];rfl
   ·rw [if_neg hneg] at htk;rw [htk] at hv;refine rr ?_;refine we () [] trivial (hv:=?_);rw [← hv];rfl
  | false=>
   rw [hl2,if_neg (by simp)] at htk;refine rr ?_;refine ca [] (signC s a b hb) ?_;intro x hx;try simp only [Sx.ap1,Sx.ap2,Sx.ap3]
   rw [hsv];have hr:signR ((txt s).drop a)≤s.size-a:=by rw [← hlen,hdr];exact signR_le _ _
   generalize signR ((txt s).drop a)=k at htk hr;by_cases h0:k=0
   ·rw [if_pos h0] at htk;rw [htk] at hv;subst h0;refine rr ?_;refine we () [] trivial (hv:=?_);rw [← hv];rfl
   ·rw [if_neg h0] at htk;rw [htk] at hv;have hb0:((k:Int) == 0)=false:=by simp;omega
    refine rr ?_;rw [hb0];refine rr ?_
    have he:s.extract ((a:Int)).toNat ((a:Int)+(k:Int)).toNat=bs (((txt s).drop a).take k):=by
     rw [show ((a:Int)).toNat=a by omega,show ((a:Int)+(k:Int)).toNat=a+k by omega,take_drop]
    refine we () [] trivial (hv:=?_);rw [← hv];simp only [packR,Option.getD,he];rfl
abbrev ScanRes:=List (Tk×Nat)×Nat×Int
def scanD (p:Nat) (l:List UInt8):ScanRes:=scanR l.length p l
def consT (t:Tk×Nat) (r:ScanRes):ScanRes:=if r.2.2=0 then (t::r.1,r.2) else ([],r.2)
def comb (l0:List (Tk×Nat)) (r:ScanRes):ScanRes:=if r.2.2=0 then (l0++r.1,r.2) else ([],r.2)
theorem scanD_nil (p:Nat):scanD p []=([],0,0):=rfl
theorem scanD_cons (p:Nat) (c:UInt8) (r:List UInt8):scanD p (c::r) =
  if isBlank c then scanD (p+1) r
  else if c=123 then
   (if Lib.indexByte (c::r) 125<0 then ([],p,2) else scanD (p+(Lib.indexByte (c::r) 125).toNat+1) ((c::r).drop ((Lib.indexByte (c::r) 125).toNat+1)))
  else if (tokR (c::r)).2.2≠0 then ([],p,(tokR (c::r)).2.2)
  else consT ((tokR (c::r)).1,p) (scanD (p+(tokR (c::r)).2.1) ((c::r).drop (tokR (c::r)).2.1)):=by
 unfold scanD;simp only [List.length_cons,scanR];split
 ·rfl
 ·split
  ·split
   ·rfl
   ·exact scanR_fuel _ _ _ _ (by simp) (Nat.le_refl _)
  ·split
   ·rfl
   ·rename_i h;have hl:=tokR_len (c:=c) (r:=r) (by simpa using h);rw [scanR_fuel r.length ((c::r).drop (tokR (c::r)).2.1).length _ _ (by simp;omega) (Nat.le_refl _)];rfl
theorem comb_nil (r:ScanRes) (h:r.2.2=0∨r.1=[]):comb [] r=r:=by
 unfold comb;split
 ·rfl
 ·rename_i h2;rcases h with h | h
  ·exact absurd h h2
  ·rw [← h]
theorem comb_cons (l0:List (Tk×Nat)) (t:Tk×Nat) (r:ScanRes):comb l0 (consT t r)=comb (l0++[t]) r:=by
 unfold comb consT;by_cases h:r.2.2=0 <;> simp [h]
theorem scanD_res:∀ (n p:Nat) (l:List UInt8),l.length≤n→(scanD p l).2.2=0∨(scanD p l).1=[]
 | n,p,[],_=>.inl rfl
 | 0,p,c::r,h=>by simp at h
 | n+1,p,c::r,h=>by
  rw [scanD_cons];simp only [List.length_cons,Nat.add_le_add_iff_right] at h;split
  ·exact scanD_res n _ _ h
  ·split
   ·split
    ·exact .inr rfl
    ·exact scanD_res n _ _ (by simp;omega)
   ·split
    ·exact .inr rfl
    ·unfold consT;split
     ·rename_i h2;exact .inl h2
     ·exact .inr rfl
def tokC (l:List (Tk×Nat)):List Value:=l.flatMap fun t=>t.1.cells (t.2:Int)
theorem tokC_app (l m:List (Tk×Nat)):tokC (l++m)=tokC l++tokC m:=by simp [tokC]
theorem tokC_one (t:Tk) (p:Nat):tokC [(t,p)]=t.cells (p:Int):=by simp [tokC]
def blanks:ByteArray:=⟨#[32,9,10,13]⟩
theorem blank_iff (b:UInt8):decide (idxB blanks (b.toNat:Int)≥0)=isBlank b:=by
 rw [idxB_nat,Bool.eq_iff_iff,decide_eq_true_eq,indexByte_mem,show txt blanks=[32,9,10,13] from rfl];simp [isBlank,Bool.or_assoc]
def scanV (r:ScanRes) (x:Option Addr×Nat):Value:=.tuple #[.slice x.1 r.1.length x.2,.int .i64 (r.2.1:Int),.int .i64 r.2.2]
theorem scanC (s:ByteArray) (hs:s.size≤1000000) :
  FnC Tryz.prog 27 [.string s] [] [] (fun (x:Option Addr×Nat)=>scanV (scanD 0 (txt s)) x) (fun x=>[row x.1 x.2 139 4 (scanD 0 (txt s)).1.length (tokC (scanD 0 (txt s)).1)]) (fun _=>True):=by
 have hmax:s.size≤maxLen:=by unfold maxLen;omega
 refine fn_intro Tryz.func27 Tryz.ntmps27 rfl rfl rfl (fun w0=>?_);refine rrs ?_;refine w_turn (fun w hw=>hw.row_nil 139 4) ?_;generalize hres:scanD 0 (txt s)=res
 refine w_loop (α:=List (Tk×Nat)×Nat×Option Addr×Nat) (fun x=>[(0,.string s),(5,.slice x.2.2.1 x.1.length x.2.2.2),(6,.int .i64 (x.2.1:Int))]) (fun x=>[row x.2.2.1 x.2.2.2 139 4 x.1.length (tokC x.1)])
  (fun x=>x.2.1≤s.size∧x.1.length≤x.2.1∧comb x.1 (scanD x.2.1 ((txt s).drop x.2.1))=res) (fun x=>s.size-x.2.1) ([],0,none,0) ⟨rfl,rfl,rfl,trivial⟩ rfl ⟨Nat.zero_le _,Nat.le_refl _,by rw [← hres];exact comb_nil _ (scanD_res _ _ _ (Nat.le_refl _))⟩ ?_
 rintro ⟨l0,p,ao,cap⟩ ⟨hp,hl0,hr⟩ K1 hK1;dsimp only at hp hl0 hr ⊢;by_cases hlt:p<s.size
 ·obtain ⟨b,hb⟩:=get_some (l:=txt s) (i:=p) (by rw [txt_len];exact hlt)
  have hb':s[(p:Int).toNat]? = some b:=by
   rw [show (p:Int).toNat=p by omega];exact txt_get s _ b hb
  have hdr:(txt s).drop p=b::(txt s).drop (p+1):=drop_cons hb;have hlen:((txt s).drop p).length=s.size-p:=by rw [List.length_drop,txt_len]
  have hidx:=indexByte_lt ((txt s).drop p) 125;rw [hlen] at hidx;rw [hdr,scanD_cons,← hdr] at hr;refine rr ?_;refine ca [] (idxC blanks (b.toNat:Int)) ?_;intro x hx;refine rrs ?_;rw [blank_iff];cases hbl:isBlank b with
  | true=>
   rw [hbl,if_pos rfl] at hr;refine rr ?_;refine w_round hK1 (l0,p+1,ao,cap) ⟨by show p+1≤s.size;omega,by show l0.length≤p+1;omega,hr⟩ (by show s.size-(p+1)<s.size-p;omega) rfl ⟨rfl,rfl,rfl,trivial⟩
  | false=>
   rw [hbl,if_neg (by simp)] at hr;by_cases h123:b=123
   ·subst h123;rw [if_pos rfl] at hr;refine rr ?_;refine ca [] (idxC (s.extract (p:Int).toNat (s.size:Int).toNat) 125) ?_;intro x hx;try simp only [Sx.ap1,Sx.ap2,Sx.ap3]
    have he:idxB (s.extract (p:Int).toNat (s.size:Int).toNat) 125=Lib.indexByte ((txt s).drop p) 125:=by
     rw [show (p:Int).toNat=p by omega,show (s.size:Int).toNat=s.size by omega,rest_eq];show Lib.indexByte _ _=_
     congr 1
    rw [he];by_cases hneg:Lib.indexByte ((txt s).drop p) 125<0
    ·rw [if_pos hneg] at hr;refine rr ?_;refine w_turn (fun w hw=>hw.row_nil 139 4) ?_;subst hr;exact we (none,0) [0] trivial
    ·rw [if_neg hneg] at hr;obtain ⟨k,hk⟩:∃ k:Nat,Lib.indexByte ((txt s).drop p) 125=k:=⟨(Lib.indexByte ((txt s).drop p) 125).toNat,by omega⟩
     rw [hk] at hr hidx ⊢;simp only [Int.toNat_natCast] at hr;rw [List.drop_drop] at hr;refine rr ?_;refine w_round hK1 (l0,p+k+1,ao,cap) ⟨by show p+k+1≤s.size;omega,by show l0.length≤p+k+1;omega,hr⟩ (by show s.size-(p+k+1)<s.size-p;omega) rfl ⟨rfl,rfl,?_,trivial⟩;show some (Value.int IntKind.i64 ((p:Int)+((k:Int)+1)))=_
     rw [show ((p:Int)+((k:Int)+1))=((p+k+1:Nat):Int) by omega]
   ·rw [if_neg h123] at hr
    have hne:((b.toNat:Int) == 123)=false:=by
     simp only [beq_eq_false_iff_ne,ne_eq];intro h;apply h123;apply UInt8.toNat_inj.1;show b.toNat=123
     omega
    refine rr ?_;rw [hne];refine rr ?_;refine ca [] (tokenC s p b hmax hb) ?_;intro x hx;try simp only [Sx.ap1,Sx.ap2,Sx.ap3]
    have htl:(tokR ((txt s).drop p)).2.2=0→1≤(tokR ((txt s).drop p)).2.1∧(tokR ((txt s).drop p)).2.1≤s.size-p:=by
     rw [← hlen,hdr];exact tokR_len
    unfold tokV;generalize tokR ((txt s).drop p)=tk at hr htl;obtain ⟨t,m,e⟩:=tk;dsimp only at hr htl ⊢;by_cases he:e=0
    ·subst he;obtain ⟨h1,h2⟩:=htl rfl;rw [if_neg (by simp),comb_cons,List.drop_drop] at hr;refine rr ?_;rw [if_pos rfl];intro c _;refine rr ?_;intro d _;refine rr ?_;rintro ⟨a',c'⟩ ⟨hc',_⟩;dsimp only at hc' ⊢;refine rr ?_;refine w_sub [0] rfl ?_;refine w_round hK1 (l0++[(t,p)],p+m,a',c') ⟨by show p+m≤s.size;omega,by simp;omega,hr⟩ (by show s.size-(p+m)<s.size-p;omega) ?_ ⟨rfl,?_,rfl,trivial⟩
     ·rw [tokC_app,tokC_one,List.length_append];rfl
     ·rw [List.length_append];rfl
    ·have hne0:(e != 0)=true:=by simp [he]
     rw [if_pos he] at hr;refine rr ?_;intro c _;refine rr ?_;rw [hne0];refine rr ?_;refine w_turn (fun w hw=>hw.row_nil 139 4) ?_;have hr2:res=([],p,e):=by rw [← hr];unfold comb;rw [if_neg he]
     subst hr2;exact we (none,0) [0] trivial
 ·obtain rfl:p=s.size:=by omega
  have hr2:res=(l0,0,0):=by rw [← hr,List.drop_of_length_le (by rw [txt_len];exact Nat.le_refl _)];unfold comb;simp [scanD_nil]
  subst hr2;refine rr ?_;exact we (ao,cap) [0] trivial
end Go.Proofs.YtkolmklfgbimoaaGreatDoor.Sc

/- The reference's Put: the walk. -/
import Derived.Test.YtgmegfmabkkaoaaRf1
namespace Go.Proofs.Ytgmegfmabkkaoaa
open Go Go.Sx Go.Sx.Chunk
set_option linter.unusedVariables false
set_option linter.unusedSimpArgs false

set_option maxHeartbeats 4000000 in
theorem putRfC (o : Ob) (hok : OkOb o) (hg : goodO o = true) : FnC (α := Unit) Try.prog 18 [obG o] [] (obS o) (fun _ => .string (mkB (putF o))) (fun _ => []) (fun _ => True) := by
  obtain ⟨g1, g2, g3, g4, g5, g6, g7, g8, g9, g10⟩ := goodP_of hg
  have n1 := nameF_len g1
  unfold obG obS
  refine fn_intro Try.func18 Try.ntmps18 rfl rfl rfl (fun w0 => ?_)
  try simp only [List.cons_append, List.nil_append, List.append_nil]
  refine rr ?_
  intro b1 _
  refine rr ?_
  refine dx [0, 1, 4, 5, 6, 2, 3, 7, 8, 9] [1, 5] [] ?_
  refine rr ?_
  refine cld (nameRfC o.name (by omega)) ?_
  intro _ _
  try simp only [List.cons_append, List.nil_append, List.append_nil]
  have e1 : mkB dsF ++ mkB (nameB o.name) = mkB (dsF ++ nameB o.name) := mkB_app _ _
  have l0 := nameB_len o.name
  refine rr ?_
  refine cld (fourRC (o.code.length : Int) (by omega)) ?_
  intro _ _
  try simp only [List.cons_append, List.nil_append, List.append_nil]
  have f1 : (fourB (o.code.length : Int)).length = 4 := rfl
  have e2 : mkB (dsF ++ nameB o.name) ++ mkB (fourB (o.code.length : Int)) = mkB (dsF ++ nameB o.name ++ fourB (o.code.length : Int)) := mkB_app _ _
  rw [← e1] at e2
  refine rr ?_
  have l2 : (dsF ++ nameB o.name ++ fourB (o.code.length : Int)).length ≤ 110 := by rw [List.length_append, List.length_append, f1, l0]; show 2 + _ + _ ≤ _; omega
  have e2' : ({ data := #[68, 83] } : ByteArray) ++ mkB (nameB o.name) ++ mkB (fourB (o.code.length : Int)) = mkB (dsF ++ nameB o.name ++ fourB (o.code.length : Int)) := e2
  rw [e2']
  generalize hL2 : dsF ++ nameB o.name ++ fourB (o.code.length : Int) = L2 at l2
  clear e1 e2 e2'
  refine lo [1, 22, 23] (fun k : Nat => [(3, .string (mkB (L2 ++ codeB (o.code.take k)))), (24, .int .i64 (k : Int))]) (fun k => []) (fun k => k ≤ o.code.length) (fun k => o.code.length - k) 0 (by omega) ?_ (hE := by simp only [List.take_zero, codeB, List.flatMap_nil, List.append_nil]; exact (by repeat (first | exact env_nil | (apply env_cons; exact rfl))))
  intro k hk K1 hK1
  by_cases hlt : k < o.code.length
  · obtain ⟨e, he⟩ := some_at hlt
    have hge := g3 e (List.mem_of_getElem? he)
    have hgp := good_parts hge
    have her : 0 ≤ encF e ∧ encF e < 4294967296 := by unfold encF; omega
    have heA : ((insC o.code).drop ((k : Int).toNat * 5)).take 5 = [.int .i64 e.op, .int .i64 e.a, .int .i64 e.b, .int .i64 e.c, .int .i64 e.imm] := insC_all he _ (by omega)
    have heL := insC_len o.code
    have l3 : (L2 ++ codeB (o.code.take k)).length ≤ 20000 := by rw [List.length_append, codeB_len, List.length_take]; omega
    refine rr ?_
    intro b5 _
    refine rr ?_
    refine cl (encRefC e hge) ?_
    intro _ _
    try simp only [List.cons_append, List.nil_append, List.append_nil]
    refine rr ?_
    refine cl (fourRC (encF e) her) ?_
    intro _ _
    try simp only [List.cons_append, List.nil_append, List.append_nil]
    have f2 : (fourB (encF e)).length = 4 := rfl
    have hsz := mkB_size (L2 ++ codeB (o.code.take k))
    refine rr ?_
    rw [mkB_app, List.append_assoc, ← codeB_snoc, ← take_snoc he]
    exact ro hK1 (k + 1) (by omega)
  obtain rfl : k = o.code.length := by omega
  rw [List.take_length]
  have l3 : (L2 ++ codeB o.code).length ≤ 20000 := by rw [List.length_append, codeB_len]; omega
  generalize hL3 : L2 ++ codeB o.code = L3 at l3
  clear hK1
  refine rr ?_
  refine dx [0, 1, 2, 5, 6, 7, 3, 4, 8, 9, 10] [2, 6] [] ?_
  refine rr ?_
  refine cld (fourRC o.data (by omega)) ?_
  intro _ _
  try simp only [List.cons_append, List.nil_append, List.append_nil]
  have f3 : (fourB o.data).length = 4 := rfl
  have hsz3 := mkB_size L3
  refine rr ?_
  refine cld (oneRC (o.exps.length : Int)) ?_
  intro _ _
  try simp only [List.cons_append, List.nil_append, List.append_nil]
  refine rr ?_
  rw [mkB_app, mkB_app]
  have l5 : (L3 ++ fourB o.data ++ [b8 (o.exps.length : Int)]).length ≤ 20020 := by rw [List.length_append, List.length_append, f3]; show _ + 1 ≤ _; omega
  generalize hL5 : L3 ++ fourB o.data ++ [b8 (o.exps.length : Int)] = L5 at l5
  refine lo [1, 45, 46] (fun k : Nat => [(3, .string (mkB (L5 ++ exB (o.exps.take k)))), (47, .int .i64 (k : Int))]) (fun k => []) (fun k => k ≤ o.exps.length) (fun k => o.exps.length - k) 0 (by omega) ?_ (hE := by simp only [List.take_zero, exB, List.flatMap_nil, List.append_nil]; exact (by repeat (first | exact env_nil | (apply env_cons; exact rfl))))
  intro k hk K1 hK1
  by_cases hlt : k < o.exps.length
  · obtain ⟨e, he⟩ := some_at hlt
    have hge := g6 e (List.mem_of_getElem? he)
    have hgn := nameF_len hge.1
    have heA : ((syC o.exps).drop ((k : Int).toNat * 2)).take 2 = [.string e.name, .int .i64 e.pl] := syC_all he _ (by omega)
    have heL := syC_len o.exps
    have l6 : (L5 ++ exB (o.exps.take k)).length ≤ 30000 := by
      have := exB_len (l := o.exps.take k) (fun x hx => (nameF_len (g6 x (List.mem_of_mem_take hx)).1).2)
      rw [List.length_take] at this
      rw [List.length_append]; omega
    have hsz := mkB_size (L5 ++ exB (o.exps.take k))
    have f4 := nameB_len e.name
    have f5 : (fourB e.pl).length = 4 := rfl
    refine rr ?_
    intro b7 _
    refine rr ?_
    refine dx [0, 1, 2, 5, 6, 3, 4, 7, 8, 9] [2, 6] [] ?_
    refine rr ?_
    refine cld (nameRfC e.name (by omega)) ?_
    intro _ _
    try simp only [List.cons_append, List.nil_append, List.append_nil]
    refine rr ?_
    refine cld (fourRC e.pl (by omega)) ?_
    intro _ _
    try simp only [List.cons_append, List.nil_append, List.append_nil]
    refine rr ?_
    rw [mkB_app, mkB_app, List.append_assoc, List.append_assoc, ← exB_snoc, ← take_snoc he]
    exact ro hK1 (k + 1) (by omega)
  obtain rfl : k = o.exps.length := by omega
  rw [List.take_length]
  have l6 : (L5 ++ exB o.exps).length ≤ 30000 := by
    have := exB_len (l := o.exps) (fun x hx => (nameF_len (g6 x hx).1).2)
    rw [List.length_append]; omega
  generalize hL6 : L5 ++ exB o.exps = L6 at l6
  clear hK1
  have hsz6 := mkB_size L6
  refine rr ?_
  refine cl (oneRC (o.imps.length : Int)) ?_
  intro _ _
  try simp only [List.cons_append, List.nil_append, List.append_nil]
  refine rr ?_
  rw [mkB_app]
  have l7 : (L6 ++ [b8 (o.imps.length : Int)]).length ≤ 30020 := by rw [List.length_append]; show _ + 1 ≤ _; omega
  generalize hL7 : L6 ++ [b8 (o.imps.length : Int)] = L7 at l7
  refine lo [1, 68, 69] (fun k : Nat => [(3, .string (mkB (L7 ++ imB (o.imps.take k)))), (70, .int .i64 (k : Int))]) (fun k => []) (fun k => k ≤ o.imps.length) (fun k => o.imps.length - k) 0 (by omega) ?_ (hE := by simp only [List.take_zero, imB, List.flatMap_nil, List.append_nil]; exact (by repeat (first | exact env_nil | (apply env_cons; exact rfl))))
  intro k hk K1 hK1
  by_cases hlt : k < o.imps.length
  · obtain ⟨e, he⟩ := some_at hlt
    have hgn := nameF_len (g8 e (List.mem_of_getElem? he))
    have hst : (strC o.imps)[(k : Int).toNat * 1]? = some (.string e) := by rw [Nat.mul_one]; exact strC_at he
    have hsl := strC_len o.imps
    have l8 : (L7 ++ imB (o.imps.take k)).length ≤ 40000 := by
      have := imB_len (l := o.imps.take k) (fun x hx => (nameF_len (g8 x (List.mem_of_mem_take hx))).2)
      rw [List.length_take] at this
      rw [List.length_append]; omega
    have hsz := mkB_size (L7 ++ imB (o.imps.take k))
    have f4 := nameB_len e
    refine rr ?_
    refine cl (nameRfC e (by omega)) ?_
    intro _ _
    try simp only [List.cons_append, List.nil_append, List.append_nil]
    refine rr ?_
    rw [mkB_app, List.append_assoc, ← imB_snoc, ← take_snoc he]
    exact ro hK1 (k + 1) (by omega)
  obtain rfl : k = o.imps.length := by omega
  rw [List.take_length]
  have l8 : (L7 ++ imB o.imps).length ≤ 40000 := by
    have := imB_len (l := o.imps) (fun x hx => (nameF_len (g8 x hx)).2)
    rw [List.length_append]; omega
  generalize hL8 : L7 ++ imB o.imps = L8 at l8
  clear hK1
  have hsz8 := mkB_size L8
  refine rr ?_
  refine cl (fourRC (o.pats.length : Int) (by omega)) ?_
  intro _ _
  try simp only [List.cons_append, List.nil_append, List.append_nil]
  have f9 : (fourB (o.pats.length : Int)).length = 4 := rfl
  refine rr ?_
  rw [mkB_app]
  have l9 : (L8 ++ fourB (o.pats.length : Int)).length ≤ 40010 := by rw [List.length_append, fourB_len]; omega
  generalize hL9 : L8 ++ fourB (o.pats.length : Int) = L9 at l9
  refine lo [86, 87] (fun k : Nat => [(3, .string (mkB (L9 ++ paB (o.pats.take k)))), (88, .int .i64 (k : Int))]) (fun k => []) (fun k => k ≤ o.pats.length) (fun k => o.pats.length - k) 0 (by omega) ?_ (hE := by simp only [List.take_zero, paB, List.flatMap_nil, List.append_nil]; exact (by repeat (first | exact env_nil | (apply env_cons; exact rfl))))
  intro k hk K1 hK1
  by_cases hlt : k < o.pats.length
  · obtain ⟨e, he⟩ := some_at hlt
    have hge := g10 e (List.mem_of_getElem? he)
    have heA : ((paC o.pats).drop ((k : Int).toNat * 3)).take 3 = [.int .i64 e.pl, .int .i64 e.kind, .int .i64 e.n] := paC_all he _ (by omega)
    have heL := paC_len o.pats
    have l10 : (L9 ++ paB (o.pats.take k)).length ≤ 80000 := by rw [List.length_append, paB_len, List.length_take]; omega
    have hsz := mkB_size (L9 ++ paB (o.pats.take k))
    have f5 : (fourB e.pl).length = 4 := rfl
    refine rr ?_
    intro b11 _
    refine rr ?_
    refine dx [0, 1, 2, 5, 6, 9, 10, 3, 4, 7, 8, 11, 12, 13] [2, 6, 10] [] ?_
    refine rr ?_
    refine cld (fourRC e.pl (by omega)) ?_
    intro _ _
    try simp only [List.cons_append, List.nil_append, List.append_nil]
    refine rr ?_
    refine cld (oneRC e.kind) ?_
    intro _ _
    try simp only [List.cons_append, List.nil_append, List.append_nil]
    refine rr ?_
    refine cld (oneRC e.n) ?_
    intro _ _
    try simp only [List.cons_append, List.nil_append, List.append_nil]
    refine rr ?_
    have hq : mkB (L9 ++ paB (o.pats.take k)) ++ mkB (fourB e.pl) ++ mkB [b8 e.kind] ++ mkB [b8 e.n] = mkB (L9 ++ paB (o.pats.take (k + 1))) := by
      rw [mkB_app, mkB_app, mkB_app, take_snoc he, paB_snoc]
      simp only [List.append_assoc]
    rw [hq]
    exact ro hK1 (k + 1) (by omega)
  obtain rfl : k = o.pats.length := by omega
  rw [List.take_length]
  have hL : L9 ++ paB o.pats = putF o := by
    rw [← hL9, ← hL8, ← hL7, ← hL6, ← hL5, ← hL3, ← hL2]
    rfl
  rw [hL]
  refine rr ?_
  exact en () trivial
end Go.Proofs.Ytgmegfmabkkaoaa

/- ObjectSizes. -/
import Derived.Test.YtgmegfmabkkaoaaOw0
namespace Go.Proofs.Ytgmegfmabkkaoaa
open Go Go.Sx Go.Sx.Chunk
set_option linter.unusedVariables false
set_option linter.unusedSimpArgs false

/-- How long they are together. -/
def sumN : List ByteArray → Nat
  | [] => 0
  | a :: l => a.size + sumN l
theorem sumN_app (a b : List ByteArray) : sumN (a ++ b) = sumN a + sumN b := by
  induction a with
  | nil => simp [sumN]
  | cons x a ih => simp only [List.cons_append, sumN, ih]; omega
theorem sumN_le {l : List ByteArray} (h : ∀ x ∈ l, x.size ≤ 16) : sumN l ≤ 16 * l.length := by
  induction l with
  | nil => simp [sumN]
  | cons x a ih =>
    have h1 := ih (fun y hy => h y (by simp [hy]))
    have h2 := h x (by simp)
    simp only [sumN, List.length_cons]
    omega
theorem exB_sum (l : List Sy) : (exB l).length = 5 * l.length + sumN (l.map Sy.name) := by
  induction l with
  | nil => rfl
  | cons a l ih => simp only [exB, List.flatMap_cons, List.length_append, fourB_len, nameB_len, List.length_cons, List.map_cons, sumN] at ih ⊢; omega
theorem imB_sum (l : List ByteArray) : (imB l).length = l.length + sumN l := by
  induction l with
  | nil => rfl
  | cons a l ih => simp only [imB, List.flatMap_cons, List.length_append, nameB_len, List.length_cons, sumN] at ih ⊢; omega
theorem put_size (o : Ob) : (putF o).length = 17 + o.name.size + 4 * o.code.length + 5 * o.exps.length + o.imps.length + 6 * o.pats.length + sumN (o.exps.map Sy.name) + sumN o.imps := by
  unfold putF
  simp only [List.length_append, fourB_len, codeB_len, paB_len, nameB_len, exB_sum, imB_sum, List.length_cons, List.length_nil]
  have h8 : dsF.length = 2 := rfl
  omega
set_option maxHeartbeats 8000000 in
theorem sizes_law (o : Ob) (hok : OkOb o) :
    FnC (α := Unit) Try.prog 5 [obG o] [] (obS o) (fun _ => .bool true) (fun _ => []) (fun _ => True) := by
  have hm : maxLen = 9223372036854775807 := rfl
  have hr := (refC o hok)
  dsimp only [obG, obS, refO, refR, obR, obR2, List.cons_append, List.nil_append] at hr
  have hp := (putC o hok)
  dsimp only [obG, obS, refO, refR, obR, obR2, List.cons_append, List.nil_append] at hp
  unfold obG obS
  refine fn_intro Try.func5 Try.ntmps5 rfl rfl rfl (fun w0 => ?_)
  try simp only [List.cons_append, List.nil_append, List.append_nil]
  refine rr ?_
  intro b1 _
  refine rr ?_
  refine cl (hr) ?_
  intro y _
  try simp only [List.cons_append, List.nil_append, List.append_nil]
  refine rr ?_
  have hs := (smallC (refO o y) (ref_ok hok y))
  rw [show smallF (refO o y) = smallF o from rfl] at hs
  dsimp only [obG, obS, refO, refR, obR, obR2, List.cons_append, List.nil_append] at hs
  refine cl (hs) ?_
  intro _ _
  try simp only [List.cons_append, List.nil_append, List.append_nil]
  cases hsm : smallF o with
  | false =>
    refine rr ?_
    refine cl (awakeC) ?_
    intro _ _
    try simp only [List.cons_append, List.nil_append, List.append_nil]
    refine rr ?_
    exact en () trivial
  | true =>
    refine rr ?_
    cases hg : goodO o with
    | false =>
      rw [hg] at hp
      simp only [if_false, Bool.false_eq_true] at hp
      refine cl (hp) ?_
      intro _ _
      try simp only [List.cons_append, List.nil_append, List.append_nil]
      refine rr ?_
      refine cl (awakeC) ?_
      intro _ _
      try simp only [List.cons_append, List.nil_append, List.append_nil]
      refine rr ?_
      exact en () trivial
    | true =>
      rw [hg] at hp
      simp only [if_true] at hp
      have g := goodP_of hg
      have hcl := g.code
      have hel := g.exps
      have hil := g.imps
      have hpl := g.pats
      have hnl := (nameF_len g.name).2
      have hen : ∀ x ∈ o.exps, x.name.size ≤ 16 := fun x hx => (nameF_len (g.exn x hx).1).2
      have hin : ∀ x ∈ o.imps, x.size ≤ 16 := fun x hx => (nameF_len (g.imn x hx)).2
      have hsz := mkB_size (putF o)
      rw [put_size] at hsz
      have hs1 := sumN_le (l := o.exps.map Sy.name) (fun x hx => by
        obtain ⟨y, hy, rfl⟩ := List.mem_map.1 hx
        exact hen y hy)
      have hs2 := sumN_le hin
      rw [List.length_map] at hs1
      refine cl (hp) ?_
      intro _ _
      try simp only [List.cons_append, List.nil_append, List.append_nil]
      refine rr ?_
      generalize mkB (putF o) = s at hsz
      obtain ⟨B, hB⟩ : ∃ B : Int, B = 17 + (o.name.size : Int) + 4 * (o.code.length : Int) + 5 * (o.exps.length : Int) + (o.imps.length : Int) + 6 * (o.pats.length : Int) := ⟨_, rfl⟩
      have hB2 : 0 ≤ B ∧ B ≤ 1000000 := by omega
      rw [← hB]
      refine hv [blk b1 [.string o.name, .slice o.ca o.code.length o.cc, .int .i64 o.data, .slice o.ea o.exps.length o.ec, .slice o.ia o.imps.length o.ic, .slice o.pa o.pats.length o.pc] 27, rng o.ea (syC o.exps), rng o.ia (strC o.imps)] ?_
      refine lo [1, 3, 51, 52] (fun k : Nat => [(53, .int .i64 (k : Int)), (5, .int .i64 (B + (sumN ((o.exps.map Sy.name).take k) : Int)))]) (fun k => []) (fun k => k ≤ o.exps.length) (fun k => o.exps.length - k) 0 (Nat.zero_le _) ?_ (hE := by
        rw [show B + (sumN ((o.exps.map Sy.name).take 0) : Int) = B by simp [sumN]]
        exact (by repeat (first | exact env_nil | (apply env_cons; exact rfl))))
      rintro k hk K1 hK1
      by_cases hlt : k < o.exps.length
      · obtain ⟨x, hx⟩ := some_at hlt
        have hxn := hen x (List.mem_of_getElem? hx)
        have hsl := syC_len o.exps
        have hxA : ((syC o.exps).drop ((k : Int).toNat * 2)).take 2 = [.string x.name, .int .i64 x.pl] := syC_all hx _ (by omega)
        have hxL := syC_len o.exps
        have hst : (sumN ((o.exps.map Sy.name).take (k + 1)) : Int) = sumN ((o.exps.map Sy.name).take k) + (x.name.size : Int) := by
          rw [take_snoc (a := x.name) (by rw [List.getElem?_map, hx]; rfl), sumN_app]
          simp [sumN]
        have hle : sumN ((o.exps.map Sy.name).take k) ≤ 16 * o.exps.length := by
          refine Nat.le_trans (sumN_le (fun x hx => ?_)) ?_
          · obtain ⟨y, hy, rfl⟩ := List.mem_map.1 (List.mem_of_mem_take hx)
            exact hen y hy
          · rw [List.length_take, List.length_map]; omega
        generalize sumN ((o.exps.map Sy.name).take k) = q at hst hle
        refine rr ?_
        intro b7 _
        refine rr ?_
        refine ro hK1 (k + 1) (by omega) (hE := ?_)
        rw [hst, ← Int.add_assoc]
        exact (by repeat (first | exact env_nil | (apply env_cons; exact rfl)))
      obtain rfl : k = o.exps.length := by omega
      rw [List.take_of_length_le (by rw [List.length_map]; omega)]
      clear hK1 hlt hk
      obtain ⟨C, hC⟩ : ∃ C : Int, C = B + (sumN (o.exps.map Sy.name) : Int) := ⟨_, rfl⟩
      have hC2 : 0 ≤ C ∧ C ≤ 2000000 := by omega
      rw [← hC]
      refine rr ?_
      refine lo [3, 64, 65] (fun k : Nat => [(66, .int .i64 (k : Int)), (5, .int .i64 (C + (sumN (o.imps.take k) : Int)))]) (fun k => []) (fun k => k ≤ o.imps.length) (fun k => o.imps.length - k) 0 (Nat.zero_le _) ?_ (hE := by
        rw [show C + (sumN (o.imps.take 0) : Int) = C by simp [sumN]]
        exact (by repeat (first | exact env_nil | (apply env_cons; exact rfl))))
      rintro k hk K1 hK1
      by_cases hlt : k < o.imps.length
      · obtain ⟨x, hx⟩ := some_at hlt
        have hxn := hin x (List.mem_of_getElem? hx)
        have hsl := strC_len o.imps
        have hx0 : (strC o.imps)[(k : Int).toNat * 1]? = some (.string x) := by rw [Nat.mul_one]; exact strC_at hx
        have hst : (sumN (o.imps.take (k + 1)) : Int) = sumN (o.imps.take k) + (x.size : Int) := by
          rw [take_snoc hx, sumN_app]
          simp [sumN]
        have hle : sumN (o.imps.take k) ≤ 16 * o.imps.length := by
          refine Nat.le_trans (sumN_le (fun x hx => hin x (List.mem_of_mem_take hx))) ?_
          rw [List.length_take]; omega
        generalize sumN (o.imps.take k) = q at hst hle
        refine rr ?_
        refine ro hK1 (k + 1) (by omega) (hE := ?_)
        rw [hst, ← Int.add_assoc]
        exact (by repeat (first | exact env_nil | (apply env_cons; exact rfl)))
      obtain rfl : k = o.imps.length := by omega
      rw [List.take_length]
      clear hK1 hlt hk
      obtain ⟨D, hD⟩ : ∃ D : Int, D = C + (sumN o.imps : Int) := ⟨_, rfl⟩
      have hfin : (s.size : Int) = D := by omega
      rw [← hD]
      refine rr ?_
      refine cl (awakeC) ?_
      intro _ _
      try simp only [List.cons_append, List.nil_append, List.append_nil]
      refine rr ?_
      exact en () trivial
end Go.Proofs.Ytgmegfmabkkaoaa

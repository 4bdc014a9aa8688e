/- ObjectShort. -/
import Derived.Test.YtgmegfmabkkaoaaOw0
namespace Go.Proofs.Ytgmegfmabkkaoaa
open Go Go.Sx Go.Sx.Chunk
set_option linter.unusedVariables false
set_option linter.unusedSimpArgs false

theorem put_len9 {o : Ob} (hg : goodO o = true) : (putF o).length ≤ 900000 := by
  have g := goodP_of hg
  have h1 := exB_len (l := o.exps) (fun x hx => (nameF_len (g.exn x hx).1).2)
  have h2 := imB_len (l := o.imps) (fun x hx => (nameF_len (g.imn x hx)).2)
  have h3 := g.code
  have h4 := g.exps
  have h5 := g.imps
  have h6 := g.pats
  have h7 := (nameF_len g.name).2
  unfold putF
  simp only [List.length_append, fourB_len, codeB_len, paB_len, nameB_len, List.length_cons, List.length_nil]
  have h8 : dsF.length = 2 := rfl
  omega
set_option maxHeartbeats 8000000 in
theorem short_law (o : Ob) (n : Int) (more : ByteArray) (hok : OkOb o) (hn : inK .u16 n) (hmo : more.size ≤ maxLen) :
    FnC (α := Unit) Try.prog 6 [obG o, .int .u16 n, .string more] [] (obS o) (fun _ => .bool true) (fun _ => []) (fun _ => True) := by
  have hm : maxLen = 9223372036854775807 := rfl
  have hn' : 0 ≤ n ∧ n ≤ 65535 := hn
  have hr := (refC o hok)
  dsimp only [obG, obS, refO, refR, obR, obR2, List.cons_append, List.nil_append] at hr
  have hp := (putC o hok)
  dsimp only [obG, obS, refO, refR, obR, obR2, List.cons_append, List.nil_append] at hp
  unfold obG obS
  refine fn_intro Try.func6 Try.ntmps6 rfl rfl rfl (fun w0 => ?_)
  try simp only [List.cons_append, List.nil_append, List.append_nil]
  refine rr ?_
  intro b1 _
  refine rr ?_
  refine cl (hr) ?_
  intro y _
  try simp only [List.cons_append, List.nil_append, List.append_nil]
  refine rr ?_
  have hs := (smallC (refO o y) (ref_ok hok y))
  rw [show smallF (refO o y) = smallF o from rfl] at hs
  dsimp only [obG, obS, refO, refR, obR, obR2, List.cons_append, List.nil_append] at hs
  refine cl (hs) ?_
  intro _ _
  try simp only [List.cons_append, List.nil_append, List.append_nil]
  cases hsm : smallF o with
  | false =>
    refine rr ?_
    refine cl (awakeC) ?_
    intro _ _
    try simp only [List.cons_append, List.nil_append, List.append_nil]
    refine rr ?_
    exact en () trivial
  | true =>
    by_cases hml : 20 < more.size
    · skip
      refine rr ?_
      refine cl (awakeC) ?_
      intro _ _
      try simp only [List.cons_append, List.nil_append, List.append_nil]
      refine rr ?_
      exact en () trivial
    refine rr ?_
    cases hg : goodO o with
    | false =>
      rw [hg] at hp
      simp only [if_false, Bool.false_eq_true] at hp
      refine cl (hp) ?_
      intro _ _
      try simp only [List.cons_append, List.nil_append, List.append_nil]
      refine rr ?_
      refine cl (awakeC) ?_
      intro _ _
      try simp only [List.cons_append, List.nil_append, List.append_nil]
      refine rr ?_
      exact en () trivial
    | true =>
      rw [hg] at hp
      simp only [if_true] at hp
      have hlen := put_len9 hg
      have hpos : 0 < (putF o).length := by unfold putF; simp [dsF]
      have hsz := mkB_size (putF o)
      obtain ⟨k, hk⟩ : ∃ k : Nat, n % ((mkB (putF o)).size : Int) = (k : Int) := ⟨(n % ((mkB (putF o)).size : Int)).toNat, by have := Int.emod_nonneg n (b := ((mkB (putF o)).size : Int)) (by omega); omega⟩
      have hk2 : k < (putF o).length := by have := Int.emod_lt_of_pos n (b := ((mkB (putF o)).size : Int)) (by omega); omega
      have ht := takeC ((putF o).take k) (by rw [List.length_take]; omega)
      rw [take_short hg hk2, ← mkB_take] at ht
      dsimp only [obG, obR] at ht
      simp only [if_false, Bool.false_eq_true] at ht
      have hu := takeC (putF o ++ txt more) (by rw [List.length_append, txt_len]; omega)
      rw [takeOk_put hg, ← mkB_app, mkB_txt] at hu
      dsimp only [obG, obR] at hu
      have hmt : decide (txt more = []) = decide (more = mkB []) := by
        rw [Bool.eq_iff_iff, decide_eq_true_eq, decide_eq_true_eq]
        exact ⟨fun h => by rw [← h, mkB_txt], fun h => by rw [h]; rfl⟩
      rw [hmt] at hu
      have hne : ¬ mkB (putF o) = mkB [] := fun h => by rw [mkB_inj] at h; rw [h] at hpos; exact absurd hpos (by decide)
      have hd1 : decide (mkB (putF o) = mkB []) = false := decide_eq_false hne
      refine cl (hp) ?_
      intro _ _
      try simp only [List.cons_append, List.nil_append, List.append_nil]
      refine rr ?_
      generalize mkB (putF o) = s at *
      have hb0 : decide (0 < (s.size : Int)) = true := decide_eq_true (by omega)
      refine rr ?_
      apply w_g
      apply g_modN
      exact rfl
      exact rfl
      exact rfl
      exact hb0
      omega
      exact rfl
      rw [hk]
      clear hsm hg
      refine rr ?_
      refine cl (ht) ?_
      intro p1 _
      try simp only [List.cons_append, List.nil_append, List.append_nil]
      refine rr ?_
      intro b9 _
      refine rr ?_
      refine cl (hu) ?_
      intro p2 _
      try simp only [List.cons_append, List.nil_append, List.append_nil]
      refine rr ?_
      intro b10 _
      refine rr ?_
      by_cases hme : more = mkB []
      · have hd2 : (!decide (more = mkB [])) = false := by rw [decide_eq_true hme]; rfl
        rw [decide_eq_true hme]
        simp only [if_true]
        refine rr ?_
        refine cl (awakeC) ?_
        intro _ _
        try simp only [List.cons_append, List.nil_append, List.append_nil]
        refine rr ?_
        exact en () trivial
      · have hd2 : (!decide (more = mkB [])) = true := by rw [decide_eq_false hme]; rfl
        rw [decide_eq_false hme]
        simp only [if_false, Bool.false_eq_true]
        refine rr ?_
        refine cl (awakeC) ?_
        intro _ _
        try simp only [List.cons_append, List.nil_append, List.append_nil]
        refine rr ?_
        exact en () trivial
end Go.Proofs.Ytgmegfmabkkaoaa

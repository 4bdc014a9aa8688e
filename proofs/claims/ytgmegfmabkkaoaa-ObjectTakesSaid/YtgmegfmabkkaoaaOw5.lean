/- ObjectTakes. -/
import Derived.Test.YtgmegfmabkkaoaaOw0
import Derived.Test.YtgmegfmabkkaoaaPl2
namespace Go.Proofs.Ytgmegfmabkkaoaa
open Go Go.Sx Go.Sx.Chunk
set_option linter.unusedVariables false
set_option linter.unusedSimpArgs false

theorem put_takes {p : Ob} {l : List UInt8} (h : canon p = takeF l) (ht : takeOk l = true) : goodO p = true ∧ putF p = l := by
  obtain ⟨h1, h2, _⟩ := takeOk_inv ht
  rw [← h] at h1 h2
  exact ⟨h1, h2.symm⟩
theorem takeF_no {l : List UInt8} (hk : takeOk l = false) : takeF l = emptyO := if_neg (by rw [hk]; decide)
theorem takeF_canon (l : List UInt8) : canon (takeF l) = takeF l := by
  cases hk : takeOk l with
  | false =>
    rw [takeF_no hk]
    rfl
  | true =>
    obtain ⟨h1, h2, h3⟩ := takeOk_inv hk
    have h4 := takeS_put h1 []
    rw [List.append_nil, ← h2] at h4
    rw [h4] at h3
    exact h3.symm
set_option maxHeartbeats 8000000 in
theorem takes_law (s : ByteArray) (hsl : s.size ≤ maxLen) :
    FnC (α := Unit) Try.prog 4 [.string s] [] [] (fun _ => .bool true) (fun _ => []) (fun _ => True) := by
  have hm : maxLen = 9223372036854775807 := rfl
  refine fn_intro Try.func4 Try.ntmps4 rfl rfl rfl (fun w0 => ?_)
  try simp only [List.cons_append, List.nil_append, List.append_nil]
  by_cases hl : 2048 < s.size
  · skip
    refine rr ?_
    refine cl (awakeC) ?_
    intro _ _
    try simp only [List.cons_append, List.nil_append, List.append_nil]
    refine rr ?_
    exact en () trivial
  obtain ⟨l, hs⟩ : ∃ l, s = mkB l := ⟨txt s, (mkB_txt s).symm⟩
  subst hs
  rw [mkB_size] at hl
  have hsz := mkB_size l
  have ht := takeC l (by omega)
  dsimp only [obG, obR] at ht
  have hrt := takeRfC l (by omega)
  have heq := rTake_eq l
  have eE : canon emptyO = emptyO := rfl
  have hcF := takeF_canon l
  cases hk : takeOk l with
  | false =>
    rw [hk] at ht heq
    simp only [if_false, Bool.false_eq_true] at ht heq
    rw [heq] at hrt
    dsimp only [obG, obR2, Option.isSome, Option.getD] at hrt
    have hF : takeF l = emptyO := takeF_no hk
    rw [hF] at ht
    clear hk heq hF hcF
    refine rr ?_
    refine cl (ht) ?_
    intro p hp
    try simp only [List.cons_append, List.nil_append, List.append_nil]
    refine rr ?_
    intro b3 _
    refine rr ?_
    refine cl (hrt) ?_
    intro x hx
    try simp only [List.cons_append, List.nil_append, List.append_nil]
    refine rr ?_
    intro b5 _
    refine rr ?_
    have hokp : OkOb p := ok_canon (o := emptyO) (by rw [hp, eE]) ⟨by decide, by decide, by decide, by decide, by decide, fun x hx => by simp [emptyO] at hx, fun x hx => by simp [emptyO] at hx⟩
    have hr := (refC p hokp)
    dsimp only [obG, obS, refO, refR, obR, obR2, List.cons_append, List.nil_append] at hr
    refine cl (hr) ?_
    intro y _
    try simp only [List.cons_append, List.nil_append, List.append_nil]
    refine rr ?_
    have he := equalC (refO p y) emptyO (ref_ok hokp y) ⟨by decide, by decide, by decide, by decide, by decide, fun x hx => by simp [emptyO] at hx, fun x hx => by simp [emptyO] at hx⟩
    rw [show alike (refO p y) emptyO = true from (alike_iff _ _).2 (by rw [ref_canon, hp, eE])] at he
    dsimp only [obG, obS, refO, emptyO, List.cons_append, List.nil_append] at he
    refine cl (he) ?_
    intro _ _
    try simp only [List.cons_append, List.nil_append, List.append_nil]
    refine rr ?_
    refine cl (awakeC) ?_
    intro _ _
    try simp only [List.cons_append, List.nil_append, List.append_nil]
    refine rr ?_
    exact en () trivial
  | true =>
    rw [hk] at ht heq
    simp only [if_true] at ht heq
    obtain ⟨hgd, hlp, hts⟩ := takeOk_inv hk
    rw [← hts] at heq
    rw [heq] at hrt
    dsimp only [obG, obR2, Option.isSome, Option.getD] at hrt
    have hokF : OkOb (takeF l) := by
      have g := goodP_of hgd
      exact ⟨by have := (nameF_len g.name).2; omega, by have := g.code; omega, by have := g.exps; omega, by have := g.imps; omega, by have := g.pats; omega, fun x hx => by have := (nameF_len (g.exn x hx).1).2; rw [hm]; omega, fun x hx => by have := (nameF_len (g.imn x hx)).2; rw [hm]; omega⟩
    have key : ∀ p, canon p = takeF l → goodO p = true ∧ putF p = l := fun p hp => put_takes hp hk
    clear hk heq hgd hlp hts
    refine rr ?_
    refine cl (ht) ?_
    intro p hp
    try simp only [List.cons_append, List.nil_append, List.append_nil]
    refine rr ?_
    intro b3 _
    refine rr ?_
    refine cl (hrt) ?_
    intro x hx
    try simp only [List.cons_append, List.nil_append, List.append_nil]
    refine rr ?_
    intro b5 _
    refine rr ?_
    have hokp : OkOb p := ok_canon (o := takeF l) (by rw [hp, hcF]) hokF
    have hokx : OkOb x := ok_canon (o := takeF l) (by rw [hx, hcF]) hokF
    obtain ⟨hgp, hpp⟩ := key p hp
    have hpc := (putC p hokp)
    dsimp only [obG, obS, refO, refR, obR, obR2, List.cons_append, List.nil_append] at hpc
    rw [hgp, hpp] at hpc
    simp only [if_true] at hpc
    clear hgp hpp key
    have hr := (refC p hokp)
    dsimp only [obG, obS, refO, refR, obR, obR2, List.cons_append, List.nil_append] at hr
    refine cl (hpc) ?_
    intro _ _
    try simp only [List.cons_append, List.nil_append, List.append_nil]
    refine rr ?_
    refine dx [0, 2, 1, 3, 4, 5, 6, 7, 8, 9, 10, 11, 12, 13, 14, 15, 16, 17, 18, 19, 20] [0, 2] [] ?_
    refine rr ?_
    refine cld (hr) ?_
    intro y _
    try simp only [List.cons_append, List.nil_append, List.append_nil]
    refine rr ?_
    have he := equalC (refO p y) x (ref_ok hokp y) hokx
    rw [show alike (refO p y) x = true from (alike_iff _ _).2 (by rw [ref_canon, hp, hx])] at he
    dsimp only [obG, obS, refO, List.cons_append, List.nil_append] at he
    have hdq : decide (mkB l = mkB l) = true := decide_eq_true rfl
    refine cld (he) ?_
    intro _ _
    try simp only [List.cons_append, List.nil_append, List.append_nil]
    refine rr ?_
    refine cld (awakeC) ?_
    intro _ _
    try simp only [List.cons_append, List.nil_append, List.append_nil]
    refine rr ?_
    exact en () trivial
end Go.Proofs.Ytgmegfmabkkaoaa

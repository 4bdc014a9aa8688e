/- ObjectPuts. -/
import Derived.Test.YtgmegfmabkkaoaaOw0
namespace Go.Proofs.Ytgmegfmabkkaoaa
open Go Go.Sx Go.Sx.Chunk
set_option linter.unusedVariables false
set_option linter.unusedSimpArgs false

set_option maxHeartbeats 8000000 in
theorem puts_law (o : Ob) (name : ByteArray) (hok : OkOb o) (hnm : name.size ≤ maxLen) :
    FnC (α := Unit) Try.prog 3 [obG o, .string name] [] (obS o) (fun _ => .bool true) (fun _ => []) (fun _ => True) := by
  have hm : maxLen = 9223372036854775807 := rfl
  have hr := (refC o hok)
  dsimp only [obG, obS, refO, refR, obR, obR2, List.cons_append, List.nil_append] at hr
  have hrn := rightNameC name hnm
  have hrm := nameC name hnm
  unfold obG obS
  refine fn_intro Try.func3 Try.ntmps3 rfl rfl rfl (fun w0 => ?_)
  try simp only [List.cons_append, List.nil_append, List.append_nil]
  refine rr ?_
  intro b1 _
  refine rr ?_
  refine cl (hr) ?_
  intro y _
  try simp only [List.cons_append, List.nil_append, List.append_nil]
  refine rr ?_
  intro b5 _
  refine rr ?_
  have hs := (smallC (refO o y) (ref_ok hok y))
  rw [show smallF (refO o y) = smallF o from rfl] at hs
  dsimp only [obG, obS, refO, refR, obR, obR2, List.cons_append, List.nil_append] at hs
  refine cl (hs) ?_
  intro _ _
  try simp only [List.cons_append, List.nil_append, List.append_nil]
  cases hsm : smallF o with
  | false =>
    refine rr ?_
    refine cl (awakeC) ?_
    intro _ _
    try simp only [List.cons_append, List.nil_append, List.append_nil]
    refine rr ?_
    exact en () trivial
  | true =>
    by_cases hnl : 100 < name.size
    · skip
      refine rr ?_
      refine cl (awakeC) ?_
      intro _ _
      try simp only [List.cons_append, List.nil_append, List.append_nil]
      refine rr ?_
      exact en () trivial
    refine rr ?_
    have hp := (putC o hok)
    dsimp only [obG, obS, refO, refR, obR, obR2, List.cons_append, List.nil_append] at hp
    have h14 := (right14C (refO o y) (ref_ok hok y))
    rw [show goodO (refO o y) = goodO o from rfl] at h14
    dsimp only [obG, obS, refO, refR, obR, obR2, List.cons_append, List.nil_append] at h14
    have hO := (rightOC o hok)
    dsimp only [obG, obS, refO, refR, obR, obR2, List.cons_append, List.nil_append] at hO
    have hbq : (!(nameF name == nameF name)) = false := by simp
    cases hg : goodO o with
    | false =>
      rw [hg] at hp h14 hO
      simp only [if_false, Bool.false_eq_true] at hp
      refine cl (hp) ?_
      intro _ _
      try simp only [List.cons_append, List.nil_append, List.append_nil]
      refine rr ?_
      refine cl (h14) ?_
      intro _ _
      try simp only [List.cons_append, List.nil_append, List.append_nil]
      refine rr ?_
      refine cl (hO) ?_
      intro _ _
      try simp only [List.cons_append, List.nil_append, List.append_nil]
      refine rr ?_
      refine cl (hrn) ?_
      intro _ _
      try simp only [List.cons_append, List.nil_append, List.append_nil]
      refine rr ?_
      refine cl (hrm) ?_
      intro _ _
      try simp only [List.cons_append, List.nil_append, List.append_nil]
      refine rr ?_
      refine cl (awakeC) ?_
      intro _ _
      try simp only [List.cons_append, List.nil_append, List.append_nil]
      refine rr ?_
      exact en () trivial
    | true =>
      rw [hg] at hp h14 hO
      simp only [if_true] at hp
      refine cl (hp) ?_
      intro _ _
      try simp only [List.cons_append, List.nil_append, List.append_nil]
      refine rr ?_
      refine cl (h14) ?_
      intro _ _
      try simp only [List.cons_append, List.nil_append, List.append_nil]
      refine rr ?_
      refine cl (hO) ?_
      intro _ _
      try simp only [List.cons_append, List.nil_append, List.append_nil]
      refine rr ?_
      refine cl (hrn) ?_
      intro _ _
      try simp only [List.cons_append, List.nil_append, List.append_nil]
      refine rr ?_
      refine cl (hrm) ?_
      intro _ _
      try simp only [List.cons_append, List.nil_append, List.append_nil]
      refine rr ?_
      have ht := takeC (putF o) (put_len hg)
      obtain ⟨t1, t2⟩ := takeF_put hg
      rw [t1, t2] at ht
      clear t1 t2
      dsimp only [obG, obR] at ht
      simp only [if_true] at ht
      refine cl (ht) ?_
      intro p hpc
      try simp only [List.cons_append, List.nil_append, List.append_nil]
      refine rr ?_
      intro b9 _
      refine rr ?_
      have hpr := (putRfC (refO o y) (ref_ok hok y) hg)
      rw [show putF (refO o y) = putF o from rfl] at hpr
      dsimp only [obG, obS, refO, refR, obR, obR2, List.cons_append, List.nil_append] at hpr
      have hokp := ok_canon hpc hok
      have hr2 := (refC p hokp)
      dsimp only [obG, obS, refO, refR, obR, obR2, List.cons_append, List.nil_append] at hr2
      generalize mkB (putF o) = s at hpr
      clear hg hsm
      have hdq : decide (s = s) = true := decide_eq_true rfl
      refine dx [0, 1, 2, 3, 4, 5, 6, 7, 8, 9, 11, 10, 12, 13, 14, 15, 16, 17, 18, 19, 20, 21] [1, 9, 11] [] ?_
      refine rr ?_
      refine cld (hpr) ?_
      intro _ _
      try simp only [List.cons_append, List.nil_append, List.append_nil]
      refine rr ?_
      refine cld (hr2) ?_
      intro y2 _
      try simp only [List.cons_append, List.nil_append, List.append_nil]
      refine rr ?_
      have he := (equalC (refO p y2) (refO o y) (ref_ok hokp y2) (ref_ok hok y))
      rw [show alike (refO p y2) (refO o y) = true from (alike_iff _ _).2 hpc] at he
      dsimp only [obG, obS, refO, refR, obR, obR2, List.cons_append, List.nil_append] at he
      refine cld (he) ?_
      intro _ _
      try simp only [List.cons_append, List.nil_append, List.append_nil]
      refine rr ?_
      refine cld (awakeC) ?_
      intro _ _
      try simp only [List.cons_append, List.nil_append, List.append_nil]
      refine rr ?_
      exact en () trivial
end Go.Proofs.Ytgmegfmabkkaoaa

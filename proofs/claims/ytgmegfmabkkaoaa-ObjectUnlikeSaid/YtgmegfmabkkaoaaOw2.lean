/- ObjectLess, ObjectUnlike. -/
import Derived.Test.YtgmegfmabkkaoaaOw0
namespace Go.Proofs.Ytgmegfmabkkaoaa
open Go Go.Sx Go.Sx.Chunk
set_option linter.unusedVariables false
set_option linter.unusedSimpArgs false

def lessO (o : Ob) : Ob := ⟨o.name, o.ca, o.cc, o.code, 0, none, 0, [], o.ia, o.ic, o.imps, none, 0, []⟩
def noneO (o : Ob) : Ob := ⟨mkB [], o.ca, o.cc, o.code, o.data, o.ea, o.ec, o.exps, o.ia, o.ic, o.imps, o.pa, o.pc, o.pats⟩
theorem less_ok {o : Ob} (hok : OkOb o) : OkOb (lessO o) := ⟨hok.name, hok.code, Nat.zero_le _, hok.imps, Nat.zero_le _, fun x hx => by simp [lessO] at hx, hok.ins⟩
theorem none_ok {o : Ob} (hok : OkOb o) : OkOb (noneO o) := ⟨Nat.zero_le _, hok.code, hok.exps, hok.imps, hok.pats, hok.ens, hok.ins⟩
theorem less_good {o : Ob} (h : goodO o = true) : goodO (lessO o) = true := by
  obtain ⟨h1, h2, h3, h4, h5, h6, ⟨h7, h8⟩, ⟨h9, h10⟩, h11, h12⟩ := (goodO_parts o).1 h
  refine (goodO_parts _).2 ⟨rfl, h2, h3, h4, Int.le_refl _, by show (0 : Int) ≤ 32000; decide, ⟨rfl, Nat.zero_le _⟩, ⟨h9, h10⟩, Nat.zero_le _, ?_⟩
  simp [lessO]
theorem none_bad (o : Ob) : goodO (noneO o) = false := by
  cases h : goodO (noneO o) with
  | false => rfl
  | true =>
    have := ((goodO_parts _).1 h).2.1
    have h2 : nameF (mkB []) = true := this
    exact absurd h2 (by decide)
set_option maxHeartbeats 8000000 in
theorem less_law (o : Ob) (hok : OkOb o) :
    FnC (α := Unit) Try.prog 7 [obG o] [] (obS o) (fun _ => .bool true) (fun _ => []) (fun _ => True) := by
  have hm : maxLen = 9223372036854775807 := rfl
  have hr := (refC o hok)
  dsimp only [obG, obS, refO, refR, obR, obR2, List.cons_append, List.nil_append] at hr
  have hO := (rightOC o hok)
  dsimp only [obG, obS, refO, refR, obR, obR2, List.cons_append, List.nil_append] at hO
  have hP := rightOC (lessO o) (less_ok hok)
  dsimp only [obG, obS, lessO] at hP
  have hQ := (rightOC (noneO o) (none_ok hok))
  rw [none_bad] at hQ
  dsimp only [obG, obS, refO, refR, obR, obR2, List.cons_append, List.nil_append] at hQ
  dsimp only [noneO] at hQ
  unfold obG obS
  refine fn_intro Try.func7 Try.ntmps7 rfl rfl rfl (fun w0 => ?_)
  try simp only [List.cons_append, List.nil_append, List.append_nil]
  refine rr ?_
  intro b1 _
  refine rr ?_
  refine cl (hr) ?_
  intro y _
  try simp only [List.cons_append, List.nil_append, List.append_nil]
  refine rr ?_
  have hs := (smallC (refO o y) (ref_ok hok y))
  rw [show smallF (refO o y) = smallF o from rfl] at hs
  dsimp only [obG, obS, refO, refR, obR, obR2, List.cons_append, List.nil_append] at hs
  refine cl (hs) ?_
  intro _ _
  try simp only [List.cons_append, List.nil_append, List.append_nil]
  cases hsm : smallF o with
  | false =>
    refine rr ?_
    refine cl (awakeC) ?_
    intro _ _
    try simp only [List.cons_append, List.nil_append, List.append_nil]
    refine rr ?_
    exact en () trivial
  | true =>
    refine rr ?_
    intro b3 _
    refine rr ?_
    intro b4 _
    refine rr ?_
    cases hg : goodO o with
    | false =>
      rw [hg] at hO
      refine cl (hO) ?_
      intro _ _
      try simp only [List.cons_append, List.nil_append, List.append_nil]
      refine rr ?_
      refine cl (hQ) ?_
      intro _ _
      try simp only [List.cons_append, List.nil_append, List.append_nil]
      refine rr ?_
      refine cl (awakeC) ?_
      intro _ _
      try simp only [List.cons_append, List.nil_append, List.append_nil]
      refine rr ?_
      exact en () trivial
    | true =>
      rw [hg] at hO
      have hP2 : FnC (α := Unit) Try.prog 14 [obG (lessO o)] [] (obS (lessO o)) (fun _ => .bool true) (fun _ => []) (fun _ => True) := by
        have := rightOC (lessO o) (less_ok hok)
        rw [less_good hg] at this
        exact this
      dsimp only [obG, obS, lessO] at hP2
      refine cl (hO) ?_
      intro _ _
      try simp only [List.cons_append, List.nil_append, List.append_nil]
      refine rr ?_
      refine cl (hP2) ?_
      intro _ _
      try simp only [List.cons_append, List.nil_append, List.append_nil]
      refine rr ?_
      refine cl (hQ) ?_
      intro _ _
      try simp only [List.cons_append, List.nil_append, List.append_nil]
      refine rr ?_
      refine cl (awakeC) ?_
      intro _ _
      try simp only [List.cons_append, List.nil_append, List.append_nil]
      refine rr ?_
      exact en () trivial
set_option maxHeartbeats 8000000 in
theorem unlike_law (a b : Ob) (hoa : OkOb a) (hob : OkOb b) :
    FnC (α := Unit) Try.prog 8 [obG a, obG b] [] (obS a ++ obS b) (fun _ => .bool true) (fun _ => []) (fun _ => True) := by
  have hm : maxLen = 9223372036854775807 := rfl
  have hra := (refC a hoa)
  dsimp only [obG, obS, refO, refR, obR, obR2, List.cons_append, List.nil_append] at hra
  have hrb := (refC b hob)
  dsimp only [obG, obS, refO, refR, obR, obR2, List.cons_append, List.nil_append] at hrb
  have hpa := (putC a hoa)
  dsimp only [obG, obS, refO, refR, obR, obR2, List.cons_append, List.nil_append] at hpa
  have hpb := (putC b hob)
  dsimp only [obG, obS, refO, refR, obR, obR2, List.cons_append, List.nil_append] at hpb
  unfold obG obS
  simp only [List.cons_append, List.nil_append]
  refine fn_intro Try.func8 Try.ntmps8 rfl rfl rfl (fun w0 => ?_)
  try simp only [List.cons_append, List.nil_append, List.append_nil]
  refine rr ?_
  intro b1 _
  refine rr ?_
  intro b2 _
  refine rr ?_
  refine cl (hra) ?_
  intro y _
  try simp only [List.cons_append, List.nil_append, List.append_nil]
  refine rr ?_
  have hs := (smallC (refO a y) (ref_ok hoa y))
  rw [show smallF (refO a y) = smallF a from rfl] at hs
  dsimp only [obG, obS, refO, refR, obR, obR2, List.cons_append, List.nil_append] at hs
  refine cl (hs) ?_
  intro _ _
  try simp only [List.cons_append, List.nil_append, List.append_nil]
  cases hsm : smallF a with
  | false =>
    refine rr ?_
    refine cl (awakeC) ?_
    intro _ _
    try simp only [List.cons_append, List.nil_append, List.append_nil]
    refine rr ?_
    exact en () trivial
  | true =>
    refine rr ?_
    refine cl (hrb) ?_
    intro y' _
    try simp only [List.cons_append, List.nil_append, List.append_nil]
    refine rr ?_
    have hs' := (smallC (refO b y') (ref_ok hob y'))
    rw [show smallF (refO b y') = smallF b from rfl] at hs'
    dsimp only [obG, obS, refO, refR, obR, obR2, List.cons_append, List.nil_append] at hs'
    refine cl (hs') ?_
    intro _ _
    try simp only [List.cons_append, List.nil_append, List.append_nil]
    cases hsm' : smallF b with
    | false =>
      refine rr ?_
      refine cl (awakeC) ?_
      intro _ _
      try simp only [List.cons_append, List.nil_append, List.append_nil]
      refine rr ?_
      exact en () trivial
    | true =>
      refine rr ?_
      refine cl (hpa) ?_
      intro _ _
      try simp only [List.cons_append, List.nil_append, List.append_nil]
      refine rr ?_
      refine cl (hpb) ?_
      intro _ _
      try simp only [List.cons_append, List.nil_append, List.append_nil]
      refine rr ?_
      refine dx [0, 2, 1, 3, 4, 5] [0, 2] [] ?_
      refine rr ?_
      refine cld (hra) ?_
      intro y1 _
      try simp only [List.cons_append, List.nil_append, List.append_nil]
      refine rr ?_
      refine cld (hrb) ?_
      intro y2 _
      try simp only [List.cons_append, List.nil_append, List.append_nil]
      refine rr ?_
      have he := equalC (refO a y1) (refO b y2) (ref_ok hoa y1) (ref_ok hob y2)
      have hal : alike (refO a y1) (refO b y2) = true ↔ canon a = canon b := alike_iff _ _
      cases hga : goodO a with
      | true =>
        cases hgb : goodO b with
        | true =>
          have e : alike (refO a y1) (refO b y2) = decide (mkB (putF a) = mkB (putF b)) := by
            rw [Bool.eq_iff_iff, hal, decide_eq_true_eq, mkB_inj]
            exact ⟨fun h => by rw [← put_canon a, h, put_canon], put_inj hga hgb⟩
          rw [e] at he
          dsimp only [obG, obS, refO, List.cons_append, List.nil_append] at he
          simp only [if_true]
          generalize mkB (putF a) = s at he
          generalize mkB (putF b) = t at he
          have hbq : (decide (s = t) == decide (s = t)) = true := by simp
          refine cld (he) ?_
          intro _ _
          try simp only [List.cons_append, List.nil_append, List.append_nil]
          refine rr ?_
          refine cl (awakeC) ?_
          intro _ _
          try simp only [List.cons_append, List.nil_append, List.append_nil]
          refine rr ?_
          exact en () trivial
        | false =>
          have e : alike (refO a y1) (refO b y2) = false := by
            cases h : alike (refO a y1) (refO b y2) with
            | false => rfl
            | true =>
              have := hal.1 h
              rw [← good_canon a, this, good_canon, hgb] at hga
              cases hga
          rw [e] at he
          dsimp only [obG, obS, refO, List.cons_append, List.nil_append] at he
          simp only [if_true, if_false, Bool.false_eq_true]
          refine cld (he) ?_
          intro _ _
          try simp only [List.cons_append, List.nil_append, List.append_nil]
          refine rr ?_
          refine cl (awakeC) ?_
          intro _ _
          try simp only [List.cons_append, List.nil_append, List.append_nil]
          refine rr ?_
          exact en () trivial
      | false =>
        cases hgb : goodO b with
        | true =>
          have e : alike (refO a y1) (refO b y2) = false := by
            cases h : alike (refO a y1) (refO b y2) with
            | false => rfl
            | true =>
              have := hal.1 h
              rw [← good_canon a, this, good_canon, hgb] at hga
              cases hga
          rw [e] at he
          dsimp only [obG, obS, refO, List.cons_append, List.nil_append] at he
          simp only [if_true, if_false, Bool.false_eq_true]
          refine cld (he) ?_
          intro _ _
          try simp only [List.cons_append, List.nil_append, List.append_nil]
          refine rr ?_
          refine cl (awakeC) ?_
          intro _ _
          try simp only [List.cons_append, List.nil_append, List.append_nil]
          refine rr ?_
          exact en () trivial
        | false =>
          dsimp only [obG, obS, refO, List.cons_append, List.nil_append] at he
          simp only [if_false, Bool.false_eq_true]
          refine cld (he) ?_
          intro _ _
          try simp only [List.cons_append, List.nil_append, List.append_nil]
          refine rr ?_
          refine cl (awakeC) ?_
          intro _ _
          try simp only [List.cons_append, List.nil_append, List.append_nil]
          refine rr ?_
          exact en () trivial
end Go.Proofs.Ytgmegfmabkkaoaa

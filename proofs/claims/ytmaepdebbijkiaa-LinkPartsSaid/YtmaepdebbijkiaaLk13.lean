/- LinkAlone, LinkBehind: the walks. -/
import Derived.Test.YtmaepdebbijkiaaLk11
import Derived.Test.YtmaepdebbijkiaaLk12
namespace Go.Proofs.Ytmaepdebbijkiaa
open Go Go.Sx Go.Sx.Chunk
set_option linter.unusedVariables false
set_option linter.unusedSimpArgs false

theorem lend_obs {R : List Chunk} {o : Ob} (h : ∀ c ∈ obS o, Prov R c) : LendsAll R (obS o) :=
  lend_prov rfl (h _ (by simp [obS])) (lend_prov rfl (h _ (by simp [obS])) (lend_prov rfl (h _ (by simp [obS])) (lend_prov rfl (h _ (by simp [obS])) trivial)))
theorem lend_see {R B : List Chunk} {l : List Ob} (h : ∀ o ∈ l, ∀ c ∈ obS o, Prov R c) (hb : LendsAll R B) : LendsAll R (seeO l :: B) :=
  lend_prov rfl (prov_see (fun c hc => by obtain ⟨o, ho, hc⟩ := List.mem_flatMap.1 hc; exact h o ho c hc)) hb
theorem prov_in {R : List Chunk} {k : Nat} {l : List Ob} {o : Ob} {c : Chunk} (hp : nthC R k = some (seeO l)) (ho : o ∈ l) (hc : c ∈ obS o) : Prov R c := (seeO_prov ho hc).one (prov_mem (nthC_mem hp))
def nopO (o : Ob) : Ob := ⟨o.name, o.ca, o.cc, o.code, o.data, o.ea, o.ec, o.exps, o.ia, o.ic, o.imps, none, 0, []⟩
theorem nop_prov {R : List Chunk} {k : Nat} {l : List Ob} {o : Ob} {c : Chunk} (hp : nthC R k = some (seeO l)) (ho : o ∈ l) (hc : c ∈ obS (nopO o)) : Prov R c := by
  simp only [obS, nopO, List.mem_cons, List.not_mem_nil, or_false] at hc
  rcases hc with rfl | rfl | rfl | rfl
  · exact prov_in hp ho (by simp [obS])
  · exact prov_in hp ho (by simp [obS])
  · exact prov_in hp ho (by simp [obS])
  · exact rng_nil
set_option maxHeartbeats 2000000 in
theorem alone_law (o : Ob) (mem : Int) (hok : OkOb o) :
    FnC (α := Unit) Try.prog 4 [obG o, .int .i64 mem] [] [seeO [o]] (fun _ => .bool true) (fun _ => []) (fun _ => True) := by
  unfold obG
  refine fn_intro Try.func4 Try.ntmps4 rfl rfl rfl (fun w0 => ?_)
  try simp only [List.cons_append, List.nil_append, List.append_nil]
  refine rr ?_
  intro b2 _
  refine rr ?_
  intro b11 _
  refine rr ?_
  have hok1 : ∀ x ∈ [o], OkOb x := fun x hx => by simp only [List.mem_singleton] at hx; subst hx; exact hok
  have hok2 : OkOb (nopO o) := ⟨hok.name, hok.code, hok.exps, hok.imps, Nat.zero_le _, hok.ens, hok.ins⟩
  have hok3 : ∀ x ∈ [nopO o], OkOb x := fun x hx => by simp only [List.mem_singleton] at hx; subst hx; exact hok2
  refine cl (refsC (some ⟨b11, 0, none⟩) 1 [o] hok1) ?_ (ho := refW)
  rintro r ⟨hr1, hr2, hr3⟩
  cases hrk : r.ok with
  | false =>
    unfold refH
    rw [hrk]
    simp only [if_false, Bool.false_eq_true, List.nil_append]
    refine rr ?_
    refine cl (awakeC) ?_
    intro _ _
    try simp only [List.cons_append, List.nil_append, List.append_nil]
    refine rr ?_
    exact en () trivial
  | true =>
    unfold refH
    rw [hrk]
    simp only [if_true, List.cons_append, List.nil_append]
    refine rr ?_
    intro b21 _
    refine rr ?_
    have hlk := linkC (some ⟨b21, 0, none⟩) 1 [nopO o] mem (Nat.le_of_ble_eq_true rfl) hok3
    have hrt := rightOC (nopO o) hok2
    by_cases hgo : goL [nopO o] mem
    · have h1 := hgo.2.1
      have h2 := hgo.2.2.1
      have h3 := hgo.2.2.2 _ (List.mem_singleton.2 rfl)
      rw [h3] at hrt
      have hf := linkF_one (o := nopO o) rfl hgo
      by_cases h4 : mem < o.data
      · have hf2 : linkF [nopO o] mem = ([], 0, 4) := by rw [hf]; exact if_pos h4
        rw [hf2] at hlk
        refine cl hlk ?_ (hl := lend_blk (k := 0) rfl (lend_see (fun x hx c hc => by simp only [List.mem_singleton] at hx; subst hx; exact nop_prov (k := 5) rfl (List.mem_singleton.2 rfl) hc) trivial))
        rintro ⟨xa, xc⟩ _
        try simp only [List.cons_append, List.nil_append, List.append_nil]
        unfold linkV
        refine rr ?_
        intro b7 _
        refine rr ?_
        refine cl (hrt) (hl := lend_obs (fun c hc => nop_prov (k := 7) rfl (List.mem_singleton.2 rfl) hc)) ?_
        intro _ _
        try simp only [List.cons_append, List.nil_append, List.append_nil]
        refine rr ?_
        refine cl (awakeC) ?_
        intro _ _
        try simp only [List.cons_append, List.nil_append, List.append_nil]
        refine rr ?_
        exact en () trivial
      · have hf2 : linkF [nopO o] mem = (o.code, o.data, 0) := by rw [hf]; exact if_neg h4
        rw [hf2] at hlk
        refine cl hlk ?_ (hl := lend_blk (k := 0) rfl (lend_see (fun x hx c hc => by simp only [List.mem_singleton] at hx; subst hx; exact nop_prov (k := 5) rfl (List.mem_singleton.2 rfl) hc) trivial))
        rintro ⟨xa, xc⟩ _
        try simp only [List.cons_append, List.nil_append, List.append_nil]
        unfold linkV
        refine rr ?_
        intro b7 _
        refine rr ?_
        refine cl (hrt) (hl := lend_obs (fun c hc => nop_prov (k := 7) rfl (List.mem_singleton.2 rfl) hc)) ?_
        intro _ _
        try simp only [List.cons_append, List.nil_append, List.append_nil]
        refine rr ?_
        have hcl := hok.code
        refine w_turn (fun w hw => hw.look (c := rng o.ca (insC o.code)) rfl ((seeO_prov (l := [o]) (List.mem_singleton.2 rfl) (by simp [obS])).one (prov_mem (List.mem_filter.2 ⟨nthC_mem (i := 7) rfl, rfl⟩)))) ?_
        refine cl (sameC xa o.ca xc o.cc o.code o.code (by omega) (by omega)) ?_
        intro _ _
        try simp only [List.cons_append, List.nil_append, List.append_nil]
        refine rr ?_
        refine cl (awakeC) ?_
        intro _ _
        try simp only [List.cons_append, List.nil_append, List.append_nil]
        refine rr ?_
        exact en () trivial
    · have hf := linkF_bad hgo
      rw [hf] at hlk
      refine cl hlk ?_ (hl := lend_blk (k := 0) rfl (lend_see (fun x hx c hc => by simp only [List.mem_singleton] at hx; subst hx; exact nop_prov (k := 5) rfl (List.mem_singleton.2 rfl) hc) trivial))
      rintro ⟨xa, xc⟩ _
      try simp only [List.cons_append, List.nil_append, List.append_nil]
      unfold linkV
      refine rr ?_
      intro b7 _
      refine rr ?_
      refine cl (hrt) (hl := lend_obs (fun c hc => nop_prov (k := 7) rfl (List.mem_singleton.2 rfl) hc)) ?_
      intro _ _
      try simp only [List.cons_append, List.nil_append, List.append_nil]
      cases hg : goodO (nopO o) with
      | false =>
        refine rr ?_
        refine cl (awakeC) ?_
        intro _ _
        try simp only [List.cons_append, List.nil_append, List.append_nil]
        refine rr ?_
        exact en () trivial
      | true =>
        by_cases h1 : mem < 0
        · refine rr ?_
          refine cl (awakeC) ?_
          intro _ _
          try simp only [List.cons_append, List.nil_append, List.append_nil]
          refine rr ?_
          exact en () trivial
        · by_cases h2 : 32000 < mem
          · refine rr ?_
            refine cl (awakeC) ?_
            intro _ _
            try simp only [List.cons_append, List.nil_append, List.append_nil]
            refine rr ?_
            exact en () trivial
          · exact absurd ⟨by simp, by omega, by omega, fun x hx => by simp only [List.mem_singleton] at hx; subst hx; exact hg⟩ hgo
end Go.Proofs.Ytmaepdebbijkiaa

/- LinkBehind: the walk. -/
import Derived.Test.YtmaepdebbijkiaaLk13
import Derived.Test.YtmaepdebbijkiaaSxP
namespace Go.Proofs.Ytmaepdebbijkiaa
open Go Go.Sx Go.Sx.Chunk
set_option linter.unusedVariables false
set_option linter.unusedSimpArgs false

theorem szBeh : "behind".toUTF8.size ≤ maxLen := by decide +kernel
theorem obC_one (l : List Ob) : ∀ u ∈ obC l, u.oneCell' = true := by
  intro u hu
  obtain ⟨o, _, ho⟩ := List.mem_flatMap.1 hu
  simp only [obV, List.mem_cons, List.not_mem_nil, or_false] at ho
  rcases ho with rfl | rfl | rfl | rfl | rfl | rfl <;> rfl
theorem insC_take (x : List In) (k : Nat) : (insC x).take (k * 5) = insC (x.take k) := by
  have h := flat_len (cells := inV) (sz := 5) (fun _ => rfl) (x.take k)
  have e : insC x = insC (x.take k) ++ insC (x.drop k) := by
    unfold insC
    rw [← List.flatMap_append, List.take_append_drop]
  by_cases hk : k ≤ x.length
  · rw [e, List.take_left' (by show (List.flatMap inV (x.take k)).length = _; rw [h]; simp [Nat.min_eq_left hk])]
  · rw [List.take_of_length_le (by rw [insC_len]; omega), List.take_of_length_le (by omega)]
theorem insC_drop (x : List In) (k : Nat) (hk : k ≤ x.length) : (insC x).drop (k * 5) = insC (x.drop k) := by
  have h := flat_len (cells := inV) (sz := 5) (fun _ => rfl) (x.take k)
  have e : insC x = insC (x.take k) ++ insC (x.drop k) := by
    unfold insC
    rw [← List.flatMap_append, List.take_append_drop]
  rw [e, List.drop_left' (by show (List.flatMap inV (x.take k)).length = _; rw [h]; simp [Nat.min_eq_left hk])]
theorem add_block (a : Addr) (k : Nat) : (a.add k).block = a.block := by unfold Addr.add; split <;> rfl
/-- The rest of a row. -/
theorem prov_tail {ya : Option Addr} {yc e sz n : Nat} {xs : List Value} (k : Nat) : Prov [row ya yc e sz n xs] (rng (if yc = k then ya else ya.map (·.add (k * sz))) (xs.drop (k * sz))) := by
  refine ⟨fun i hi => ⟨_, List.mem_singleton.2 rfl, ?_⟩, fun w hw j v hj => ?_⟩
  · obtain ⟨hne, ad, hd, rfl⟩ := hi
    split at hd
    · subst hd; rfl
    · cases ya with
      | none => cases hd
      | some a =>
        simp only [Option.map_some, Option.some.injEq] at hd
        subst hd
        rw [add_block]
        rfl
  · have hok := hw _ (List.mem_singleton.2 rfl)
    have hr := row_rng_ok hok
    rw [List.getElem?_drop] at hj
    obtain ⟨a, rfl, hc⟩ := hr _ v hj
    by_cases hy : yc = k
    · exfalso
      have hok' : w.ownsRow 0 e sz (.slice (some a) n yc) n xs := hok
      have hl := hok'.1
      have hlt := (List.getElem?_eq_some_iff.1 hj).1
      rcases hok'.2 with ⟨hv, hz⟩ | ⟨g, cap, cur, hv, _, _, hle, _⟩
      · cases hv
      · simp only [Value.slice.injEq] at hv
        obtain ⟨_, _, rfl⟩ := hv
        subst hy
        have := Nat.mul_le_mul_right sz hle
        omega
    · rw [if_neg hy]
      exact ⟨_, rfl, by rw [add_add]; exact hc⟩
theorem prov_head {ya : Option Addr} {yc e sz n : Nat} {xs : List Value} (k : Nat) : Prov [row ya yc e sz n xs] (rng ya (xs.take k)) :=
  (rng_take k).trans (fun x hx => by simp only [List.mem_singleton] at hx; subst hx; exact row_rng)
theorem sameC' (a b : Option Addr) (c d : Nat) (x y : List In) {n m : Nat} (hn : n = x.length) (hm : m = y.length) (hx : x.length ≤ 8796093021952) (hy : y.length ≤ 8796093021952) :
    FnC (α := Unit) Try.prog 13 [.slice a n c, .slice b m d] [] [rng a (insC x), rng b (insC y)] (fun _ => .bool (decide (x = y))) (fun _ => []) (fun _ => True) := by
  subst hn; subst hm; exact sameC a b c d x y hx hy
set_option maxHeartbeats 2000000 in
theorem behind_law (a ca : Option Addr) (c cc : Nat) (l : List Ob) (code : List In) (mem : Int) (hok : ∀ o ∈ l, OkOb o) :
    FnC (α := Unit) Try.prog 5 [.slice a l.length c, .slice ca code.length cc, .int .i64 mem] [] [rng a (obC l), seeO l, rng ca (insC code)] (fun _ => .bool true) (fun _ => []) (fun _ => True) := by
  refine fn_intro Try.func5 Try.ntmps5 rfl rfl rfl (fun w0 => ?_)
  try simp only [List.cons_append, List.nil_append, List.append_nil]
  refine rr ?_
  refine cl (refsC a c l hok) ?_ (ho := refW)
  rintro r ⟨hr1, hr2, hr3⟩
  cases hrk : r.ok with
  | false =>
    unfold refH
    rw [hrk]
    simp only [if_false, Bool.false_eq_true, List.nil_append]
    refine rr ?_
    refine cl (awakeC) ?_
    intro _ _
    try simp only [List.cons_append, List.nil_append, List.append_nil]
    refine rr ?_
    exact en () trivial
  | true =>
  have h6 : l.length ≤ 6 := by
    rw [hrk] at hr1
    have := hr1.symm
    simp at this
    exact this.1
  unfold refH
  rw [hrk]
  simp only [if_true, List.cons_append, List.nil_append]
  by_cases hc1 : 100 < code.length
  · refine rr ?_
    refine cl (awakeC) ?_
    intro _ _
    try simp only [List.cons_append, List.nil_append, List.append_nil]
    refine rr ?_
    exact en () trivial
  have hlen := obC_len l
  refine rr ?_
  refine lo [0, 1, 2, 28, 29] (fun k : Nat => [(30, .int .i64 (k : Int))]) (fun k => []) (fun k => k ≤ l.length) (fun k => l.length - k) 0 (by omega) ?_
  intro k hk K1 hK1
  by_cases hlt : k < l.length
  · obtain ⟨o, he⟩ := some_at (l := l) (k := k) (by omega)
    have heA : ((obC l).drop ((k : Int).toNat * 6)).take 6 = [.string o.name, .slice o.ca o.code.length o.cc, .int .i64 o.data, .slice o.ea o.exps.length o.ec, .slice o.ia o.imps.length o.ic, .slice o.pa o.pats.length o.pc] := obC_all he _ (by omega)
    have heL := obC_len l
    by_cases hn : o.name = "behind".toUTF8
    · have hd : decide (o.name = "behind".toUTF8) = true := by simpa using hn
      refine rr ?_
      intro b10 _
      refine rr ?_
      refine cl (awakeC) ?_
      intro _ _
      try simp only [List.cons_append, List.nil_append, List.append_nil]
      refine rr ?_
      exact en () trivial
    · have hd : decide (o.name = "behind".toUTF8) = false := by simpa using hn
      refine rr ?_
      intro b10 _
      refine rr ?_
      exact ro hK1 (k + 1) (by omega)
  obtain rfl : k = l.length := by omega
  have hlk := linkC a c l mem (by omega) hok
  refine rr ?_
  refine cl (hlk) ?_
  intro x _
  try simp only [List.cons_append, List.nil_append, List.append_nil]
  obtain ⟨xa, xc⟩ := x
  unfold linkV
  have hol := obC_one l
  refine rr ?_
  intro b11 _
  refine rr ?_
  intro b46 _
  refine rr ?_
  rintro ⟨ea, ec⟩ he
  refine rr ?_
  intro b51 _
  refine rr ?_
  rintro ⟨fa, fc⟩ ⟨hf1, _⟩
  refine rr ?_
  rw [List.nil_append]
  have happ : obC l ++ [.string "behind".toUTF8, .slice ca code.length cc, .int .i64 0, .slice none 0 0, .slice none 0 0, .slice none 0 0] = obC (l ++ [behO ca cc code]) := by simp [obC, obV, behO]
  have hlen2 : 0 + l.length + 1 = (l ++ [behO ca cc code]).length := by simp
  have hok2 : ∀ o ∈ l ++ [behO ca cc code], OkOb o := fun o ho => by
    rcases List.mem_append.1 ho with ho | ho
    · exact hok o ho
    · simp only [List.mem_singleton] at ho
      subst ho
      exact ⟨szBeh, by show code.length ≤ _; omega, Nat.zero_le _, Nat.zero_le _, Nat.zero_le _, fun x hx => (by cases hx), fun x hx => (by cases hx)⟩
  have hlk2 := linkC fa fc (l ++ [behO ca cc code]) mem (by rw [← hlen2]; omega) hok2
  rw [← hlen2, ← happ] at hlk2
  refine cl hlk2 ?_ (hl := lend_row (k := 0) rfl (lend_see (fun x hx c hc => ?_) trivial))
  rotate_left
  · rcases List.mem_append.1 hx with hx | hx
    · exact prov_in (by repeat (first | exact find_here | apply find_there)) hx hc
    · simp only [List.mem_singleton] at hx
      subst hx
      simp only [obS, behO, List.mem_cons, List.not_mem_nil, or_false] at hc
      rcases hc with rfl | rfl | rfl | rfl
      · exact prov_mem (nthC_mem (by repeat (first | exact find_here | apply find_there)))
      · exact rng_nil
      · exact rng_nil
      · exact rng_nil
  rintro ⟨ya, yc⟩ _
  try simp only [List.cons_append, List.nil_append, List.append_nil]
  unfold linkV
  by_cases hb0 : (linkF (l ++ [behO ca cc code]) mem).2.2 = 0
  · by_cases hl0 : l = []
    · subst hl0
      have ha0 : linkF [] mem = ([], 0, 1) := linkF_bad (fun h => h.1 rfl)
      rw [ha0]
      refine rr ?_
      intro b13 _
      refine rr ?_
      refine cl (awakeC) ?_
      intro _ _
      try simp only [List.cons_append, List.nil_append, List.append_nil]
      refine rr ?_
      exact en () trivial
    · obtain ⟨h1, h2, h3⟩ := link_behind (o := behO ca cc code) rfl rfl rfl hl0 hb0
      have hln := linkF_len l mem
      have hcd : (behO ca cc code).code = code := rfl
      rw [h2, h3, hb0, h1, hcd]
      have hq1 : insC ((linkF l mem).1 ++ code) = insC (linkF l mem).1 ++ insC code := insC_app ..
      have hl1 := insC_len (linkF l mem).1
      have hl2 : ((linkF l mem).1 ++ code).length = (linkF l mem).1.length + code.length := by simp
      have hA : (linkF l mem).1.length ≤ 8796093021952 := by omega
      have hC : code.length ≤ 8796093021952 := by omega
      have e1 : (insC ((linkF l mem).1 ++ code)).take ((linkF l mem).1.length * 5) = insC (linkF l mem).1 := by rw [insC_take, List.take_left']; rfl
      have e2 : (insC ((linkF l mem).1 ++ code)).drop ((linkF l mem).1.length * 5) = insC code := by rw [insC_drop _ _ (by omega), List.drop_left']; rfl
      have p1 := prov_head (ya := ya) (yc := yc) (e := 47) (sz := 5) (n := ((linkF l mem).1 ++ code).length) (xs := insC ((linkF l mem).1 ++ code)) ((linkF l mem).1.length * 5)
      have p2 := prov_tail (ya := ya) (yc := yc) (e := 47) (sz := 5) (n := ((linkF l mem).1 ++ code).length) (xs := insC ((linkF l mem).1 ++ code)) (linkF l mem).1.length
      rw [e1] at p1
      rw [e2] at p2
      refine w_use (fun w hw => (hw.pick 0 rfl).row_cap) ?_
      intro hcap
      refine rr ?_
      intro b13 _
      refine rr ?_
      refine dx [0, 1, 2, 3, 4, 5, 6, 7, 8, 9, 10, 11, 12, 13, 14, 15, 16, 17, 18, 19, 20, 21, 22, 23, 24, 25, 26, 27, 28, 29, 30, 31, 32, 33, 34, 35, 36, 37, 38, 39, 40, 41] [1, 4, 12, 14, 18, 23, 25, 33, 35] [] ?_
      refine rr ?_
      refine cld (sameC ya xa yc xc (linkF l mem).1 (linkF l mem).1 hA hA) (hl := lend_prov rfl (p1.one (prov_mem (nthC_mem (by repeat (first | exact find_here | apply find_there))))) (lend_row (by repeat (first | exact find_here | apply find_there)) trivial)) ?_
      intro _ _
      try simp only [List.cons_append, List.nil_append, List.append_nil]
      refine rr ?_
      refine cld (sameC' (if yc = (linkF l mem).1.length then ya else ya.map (·.add ((linkF l mem).1.length * 5))) ca (yc - (linkF l mem).1.length) cc code code (n := ((linkF l mem).1 ++ code).length - (linkF l mem).1.length) (m := code.length) (by simp) rfl hC hC) (hl := lend_prov rfl (p2.one (prov_mem (nthC_mem (by repeat (first | exact find_here | apply find_there))))) (lend_cons rfl (by repeat (first | exact find_here | apply find_there)) trivial)) ?_
      intro _ _
      try simp only [List.cons_append, List.nil_append, List.append_nil]
      refine rr ?_
      refine cld (awakeC) ?_
      intro _ _
      try simp only [List.cons_append, List.nil_append, List.append_nil]
      refine rr ?_
      exact en () trivial
  · by_cases ha0 : (linkF l mem).2.2 = 0
    · rw [ha0]
      refine rr ?_
      intro b13 _
      refine rr ?_
      refine cl (awakeC) ?_
      intro _ _
      try simp only [List.cons_append, List.nil_append, List.append_nil]
      refine rr ?_
      exact en () trivial
    · refine rr ?_
      intro b13 _
      refine rr ?_
      refine cl (awakeC) ?_
      intro _ _
      try simp only [List.cons_append, List.nil_append, List.append_nil]
      refine rr ?_
      exact en () trivial
end Go.Proofs.Ytmaepdebbijkiaa

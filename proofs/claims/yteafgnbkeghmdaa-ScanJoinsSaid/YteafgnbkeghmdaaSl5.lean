/- ScanJoins: the walk. -/
import Derived.Test.YteafgnbkeghmdaaSp3
import Derived.Test.YteafgnbkeghmdaaSl3
namespace Go.Proofs.Yteafgnbkeghmdaa
open Go Go.Sx Go.Sx.Chunk
set_option linter.unusedVariables false
set_option linter.unusedSimpArgs false

theorem comb_shift (l : List (Tk × Nat)) (d : Nat) (r : ScanRes) : comb l (shiftR d r) = if r.2.2 = 0 then (l ++ r.1.map (fun t => (t.1, t.2 + d)), r.2.1, r.2.2) else ([], r.2.1 + d, r.2.2) := by
  unfold comb shiftR
  by_cases h : r.2.2 = 0 <;> simp [h]
set_option maxHeartbeats 4000000 in
theorem joins_spec (a b : ByteArray) : FnC (α := Unit) Try.prog 8 [.string a, .string b] [] [] (fun _ => .bool true) (fun _ => []) (fun _ => True) := by
  refine fn_intro Try.func8 Try.ntmps8 rfl rfl rfl (fun w0 => ?_)
  try simp only [List.cons_append, List.nil_append, List.append_nil]
  by_cases hs : 1024 < a.size
  · refine rr ?_
    refine ca [] awakeC ?_
    intro x hx
    try simp only [List.cons_append, List.nil_append, List.append_nil]
    refine rr ?_
    exact we () [] trivial
  by_cases hs2 : 1024 < b.size
  · refine rr ?_
    refine ca [] awakeC ?_
    intro x hx
    try simp only [List.cons_append, List.nil_append, List.append_nil]
    refine rr ?_
    exact we () [] trivial
  have e0 : (⟨#[32]⟩ : ByteArray).size = 1 := rfl
  have e1 : (a ++ (⟨#[32]⟩ : ByteArray)).size = a.size + 1 := by rw [ByteArray.size_append]; rfl
  have e2 : (a ++ (⟨#[32]⟩ : ByteArray) ++ b).size = a.size + 1 + b.size := by rw [ByteArray.size_append, e1]
  have htx : txt (a ++ (⟨#[32]⟩ : ByteArray) ++ b) = txt a ++ 32 :: txt b := by
    rw [bs_txt_app, bs_txt_app, show txt (⟨#[32]⟩ : ByteArray) = [32] from rfl]; simp
  have hjoin : (scanD 0 (txt a)).2.2 = 0 → scanD 0 (txt (a ++ (⟨#[32]⟩ : ByteArray) ++ b)) = comb (scanD 0 (txt a)).1 (shiftR (a.size + 1) (scanD 0 (txt b))) := by
    intro h
    rw [htx, scan_join (txt b) _ 0 _ (Nat.le_refl _) h, ← scanD_shift _ _ 0 _ (Nat.le_refl _), txt_len]
    congr 1
  have hm1 := scanD_len _ 0 (txt a) (Nat.le_refl _)
  have hm2 := scanD_len _ 0 (txt b) (Nat.le_refl _)
  rw [txt_len] at hm1 hm2
  have hst := (scan_all (txt b)).1
  have hbad := (scan_all (txt b)).2.2
  rw [txt_len] at hbad
  rw [comb_shift] at hjoin
  refine rr ?_
  refine ca [] (scanC a (by omega)) ?_
  intro x hx
  try simp only [List.cons_append, List.nil_append, List.append_nil]
  obtain ⟨a1, c1⟩ := x
  dsimp only
  refine rr ?_
  refine ca [] (scanC b (by omega)) ?_
  intro x hx
  try simp only [List.cons_append, List.nil_append, List.append_nil]
  obtain ⟨a2, c2⟩ := x
  dsimp only
  refine rr ?_
  refine ca [] (scanC (a ++ (⟨#[32]⟩ : ByteArray) ++ b) (by omega)) ?_
  intro x hx
  try simp only [List.cons_append, List.nil_append, List.append_nil]
  obtain ⟨a3, c3⟩ := x
  dsimp only
  generalize scanD 0 (txt a) = ra at hjoin hm1
  generalize scanD 0 (txt b) = rb at hjoin hm2 hst hbad
  generalize scanD 0 (txt (a ++ (⟨#[32]⟩ : ByteArray) ++ b)) = rc at hjoin
  unfold scanV
  by_cases ha : ra.2.2 = 0
  · have ha0 : (ra.2.2 != 0) = false := by rw [ha]; decide
    rw [hjoin ha]
    by_cases hb : rb.2.2 = 0
    · rw [if_pos hb]
      have hb0 : (rb.2.2 != 0) = false := by rw [hb]; decide
      have hlA := tokC_len ra.1
      have hlB := tokC_len rb.1
      generalize hC : ra.1 ++ rb.1.map (fun t => (t.1, t.2 + (a.size + 1))) = lc
      have hlC := tokC_len lc
      have hcl : lc.length = ra.1.length + rb.1.length := by rw [← hC]; simp
      have hcn : ((lc.length : Int) != (ra.1.length : Int) + (rb.1.length : Int)) = false := by rw [hcl]; simp
      refine rr ?_
      refine w_loop (α := Nat) (fun k => [(0, .string a), (5, .slice a1 ra.1.length c1), (8, .slice a2 rb.1.length c2), (84, .slice a3 lc.length c3), (85, .int .i64 (lc.length : Int)), (86, .int .i64 (k : Int))]) (fun k => [row a3 c3 32 4 lc.length (tokC lc), row a2 c2 32 4 rb.1.length (tokC rb.1), row a1 c1 32 4 ra.1.length (tokC ra.1)]) (fun k => k ≤ lc.length) (fun k => lc.length - k) 0 ⟨rfl, rfl, rfl, rfl, rfl, rfl, trivial⟩ rfl (Nat.zero_le _) ?_
      rintro k hk K3 hK3
      by_cases hlt : k < lc.length
      · obtain ⟨t, ht⟩ := list_get hlt
        have hg := tok_get ht
        simp only [Tk.cells] at hg
        refine w_use (fun w hw => (hw.pick 0 rfl).row_some (by first | omega | decide | (simp; done) | (simp <;> omega))) ?_
        rintro ⟨g3, rfl⟩
        by_cases hka : k < ra.1.length
        · have ht2 : ra.1[k]? = some t := by
            rw [← hC, List.getElem?_append_left hka] at ht; exact ht
          have hg2 := tok_get ht2
          simp only [Tk.cells] at hg2
          refine w_use (fun w hw => (hw.pick 2 rfl).row_some (by first | omega | decide | (simp; done) | (simp <;> omega))) ?_
          rintro ⟨g1, rfl⟩
          refine rr ?_
          intro x1 _
          refine rr ?_
          intro x2 _
          refine rr ?_
          refine w_sub [2, 2, 2] rfl ?_
          exact w_round hK3 (k + 1) (by show k + 1 ≤ lc.length; omega) (by show lc.length - (k + 1) < lc.length - k; omega) rfl ⟨rfl, rfl, rfl, rfl, rfl, rfl, trivial⟩
        · obtain ⟨j, rfl⟩ : ∃ j, k = ra.1.length + j := ⟨k - ra.1.length, by omega⟩
          obtain ⟨u, hu⟩ := list_get (l := rb.1) (k := j) (by omega)
          have htu : t = (u.1, u.2 + (a.size + 1)) := by
            rw [← hC, List.getElem?_append_right (by omega), Nat.add_sub_cancel_left, List.getElem?_map, hu] at ht
            simpa using ht.symm
          subst htu
          dsimp only at hg
          have hg2 := tok_get hu
          simp only [Tk.cells] at hg2
          have hb1 := (hst u (List.mem_of_getElem? hu)).1
          rw [txt_len] at hb1
          have hix : 0 + (((ra.1.length + j : Nat) : Int) - (ra.1.length : Int)).toNat * 4 = 0 + (j : Int).toNat * 4 := by omega
          rw [← hix] at hg2
          refine w_use (fun w hw => (hw.pick 1 rfl).row_some (by first | omega | decide | (simp; done) | (simp <;> omega))) ?_
          rintro ⟨g2, rfl⟩
          refine rr ?_
          intro x1 _
          refine rr ?_
          intro x2 _
          refine rr ?_
          refine w_sub [2, 2, 2] rfl ?_
          exact w_round hK3 (ra.1.length + j + 1) (by show ra.1.length + j + 1 ≤ lc.length; omega) (by show lc.length - (ra.1.length + j + 1) < lc.length - (ra.1.length + j); omega) rfl ⟨rfl, rfl, rfl, rfl, rfl, rfl, trivial⟩
      · refine rr ?_
        refine ca [] awakeC ?_
        intro x hx
        try simp only [List.cons_append, List.nil_append, List.append_nil]
        refine rr ?_
        exact we () [] trivial
    · rw [if_neg hb]
      have hb0 : (rb.2.2 != 0) = true := by simp [hb]
      have he1 : (rb.2.2 == rb.2.2) = true := by simp
      have he2 : (((rb.2.1 + (a.size + 1) : Nat) : Int) == (rb.2.1 : Int) + (a.size : Int) + 1) = true := by simp; omega
      have hpl := hbad hb
      dsimp only
      refine rr ?_
      rw [he2]
      refine rr ?_
      refine ca [] awakeC ?_
      intro x hx
      try simp only [List.cons_append, List.nil_append, List.append_nil]
      refine rr ?_
      exact we () [] trivial
  · have ha0 : (ra.2.2 != 0) = true := by simp [ha]
    refine rr ?_
    refine ca [] awakeC ?_
    intro x hx
    try simp only [List.cons_append, List.nil_append, List.append_nil]
    refine rr ?_
    exact we () [] trivial
end Go.Proofs.Yteafgnbkeghmdaa

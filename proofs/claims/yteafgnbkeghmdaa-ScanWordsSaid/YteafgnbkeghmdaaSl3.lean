/- ScanShifts: the walk. -/
import Derived.Test.YteafgnbkeghmdaaSl2
namespace Go.Proofs.Yteafgnbkeghmdaa
open Go Go.Sx Go.Sx.Chunk
set_option linter.unusedVariables false
set_option linter.unusedSimpArgs false

theorem bs_append (a b : List UInt8) : bs a ++ bs b = bs (a ++ b) := by
  apply ByteArray.ext
  simp [bs]
theorem bs_txt_app (s t : ByteArray) : txt (s ++ t) = txt s ++ txt t := by simp [txt]
/-- The first k tokens moved back. -/
def mixT (d k : Nat) (l : List (Tk × Nat)) : List (Tk × Nat) := l.take k ++ (l.drop k).map (fun t => (t.1, t.2 + d))
theorem mixT_len (d k : Nat) (l : List (Tk × Nat)) : (mixT d k l).length = l.length := by simp [mixT]; omega
theorem mixT_get {d k : Nat} {l : List (Tk × Nat)} {t : Tk × Nat} (h : l[k]? = some t) : (mixT d k l)[k]? = some (t.1, t.2 + d) := by
  have hk := (List.getElem?_eq_some_iff.1 h).1
  unfold mixT
  rw [List.getElem?_append_right (by simp; omega)]
  simp [Nat.min_eq_left (Nat.le_of_lt hk), h]
theorem mixT_get' {d k : Nat} {l : List (Tk × Nat)} {t : Tk × Nat} (h : l[k]? = some t) : (mixT d (k + 1) l)[k]? = some t := by
  have hk := (List.getElem?_eq_some_iff.1 h).1
  unfold mixT
  rw [List.getElem?_append_left (by simp; omega)]
  simp [h]
theorem mixT_set {d k : Nat} {l : List (Tk × Nat)} {t : Tk × Nat} (h : l[k]? = some t) : mixT d (k + 1) l = (mixT d k l).set k t := by
  obtain ⟨hk, hb⟩ := List.getElem?_eq_some_iff.1 h
  unfold mixT
  have hm : (l.take k).length = k := by simp; omega
  rw [List.set_append_right _ _ (by omega), hm, Nat.sub_self, List.drop_eq_getElem_cons hk, List.map_cons, List.set_cons_zero, List.take_succ_eq_append_getElem hk, hb]
  simp
theorem tokC_set : ∀ {l : List (Tk × Nat)} {k : Nat} {t u : Tk × Nat}, l[k]? = some u → u.1 = t.1 → (tokC l).set (4 * k + 3) (.int .i64 (t.2 : Int)) = tokC (l.set k t)
  | [], k, t, u, h, _ => by simp at h
  | x :: l, 0, t, u, h, he => by
    simp only [List.getElem?_cons_zero, Option.some.injEq] at h
    subst h
    obtain ⟨a, b⟩ := t
    obtain ⟨c, e⟩ := x
    dsimp only at he
    subst he
    simp [tokC, Tk.cells]
  | x :: l, k + 1, t, u, h, he => by
    have ih := tokC_set (l := l) (k := k) (t := t) (u := u) (by simpa using h) he
    rw [show x :: l = [x] ++ l from rfl, tokC_app, show tokC [x] = x.1.cells (x.2 : Int) from by simp [tokC], show 4 * (k + 1) + 3 = (4 * k + 3) + 1 + 1 + 1 + 1 by omega]
    simp only [Tk.cells, List.cons_append, List.nil_append, List.set_cons_succ, ih]
    rw [show x :: l.set k t = [x] ++ l.set k t from rfl, tokC_app, show tokC [x] = x.1.cells (x.2 : Int) from by simp [tokC]]
    rfl
theorem tokC_at {l : List (Tk × Nat)} {k : Nat} {t : Tk × Nat} (h : l[k]? = some t) (j : Nat) (hj : j < 4) : (tokC l)[4 * k + j]? = (t.1.cells (t.2 : Int))[j]? := by
  have := tokC_get h
  rw [← this, List.getElem?_take, if_pos hj, List.getElem?_drop]
theorem shift_mix (d : Nat) (r : ScanRes) : (shiftR d r).1 = mixT d 0 r.1 := by simp [shiftR, mixT]

theorem rem4 (c : Int) (k : Nat) (hc : 0 ≤ c) : ∃ j : Nat, j < 4 ∧ (c / 2 ^ k).tmod 4 = j := by
  have h0 : 0 ≤ c / 2 ^ k := Int.ediv_nonneg hc (Int.le_of_lt (Int.pow_pos (by decide)))
  refine ⟨((c / 2 ^ k).tmod 4).toNat, ?_, ?_⟩
  · have := Int.tmod_lt_of_pos (c / 2 ^ k) (show (0 : Int) < 4 by decide)
    have := Int.tmod_nonneg 4 h0
    omega
  · have := Int.tmod_nonneg 4 h0
    omega
set_option maxHeartbeats 4000000 in
theorem shifts_spec (s : ByteArray) (c : Int) (cm : ByteArray) (hc0 : 0 ≤ c) (hc1 : c ≤ 255) : FnC (α := Unit) Try.prog 4 [.string s, .int .u8 c, .string cm] [] [] (fun _ => .bool true) (fun _ => []) (fun _ => True) := by
  refine fn_intro Try.func4 Try.ntmps4 rfl rfl rfl (fun w0 => ?_)
  try simp only [List.cons_append, List.nil_append, List.append_nil]
  by_cases hs : 2048 < s.size
  · refine rr ?_
    refine ca [] awakeC ?_
    intro x hx
    try simp only [List.cons_append, List.nil_append, List.append_nil]
    refine rr ?_
    exact we () [] trivial
  by_cases hs2 : 100 < cm.size
  · refine rr ?_
    refine ca [] awakeC ?_
    intro x hx
    try simp only [List.cons_append, List.nil_append, List.append_nil]
    refine rr ?_
    exact we () [] trivial
  refine rr ?_
  refine w_loop (α := Nat) (fun k => [(0, .string s), (1, .int .u8 c), (2, .string cm), (27, .int .i64 cm.size), (28, .int .i64 (k : Int))]) (fun _ => []) (fun k => k ≤ cm.size ∧ ∀ j, j < k → (txt cm)[j]? ≠ some 125) (fun k => cm.size - k) 0 ⟨rfl, rfl, rfl, rfl, rfl, trivial⟩ rfl ⟨Nat.zero_le _, by omega⟩ ?_
  rintro k ⟨hk, hall⟩ K1 hK1
  by_cases hlt : k < cm.size
  · obtain ⟨b, hb⟩ := get_some (l := txt cm) (i := k) (by rw [txt_len]; exact hlt)
    have hb' : cm[(k : Int).toNat]? = some b := by
      rw [show (k : Int).toNat = k by omega]; exact txt_get _ _ b hb
    by_cases h125 : b = 125
    · subst h125
      refine rr ?_
      refine ca [] awakeC ?_
      intro x hx
      try simp only [List.cons_append, List.nil_append, List.append_nil]
      refine rr ?_
      exact we () [] trivial
    · have hbn : b.toNat ≠ 125 := fun h => h125 (UInt8.toNat_inj.1 h)
      refine rr ?_
      refine w_round hK1 (k + 1) ⟨by show k + 1 ≤ cm.size; omega, fun j hj => ?_⟩ (by show cm.size - (k + 1) < cm.size - k; omega) rfl ⟨rfl, rfl, rfl, rfl, rfl, trivial⟩
      by_cases hjk : j = k
      · subst hjk; rw [hb]; simpa using h125
      · exact hall j (by omega)
  · obtain rfl : k = cm.size := by omega
    have hcm : ∀ b ∈ txt cm, b ≠ 125 := by
      intro b hb h
      subst h
      obtain ⟨j, hj, hjb⟩ := List.mem_iff_getElem.1 hb
      exact hall j (by rw [← txt_len]; exact hj) (by simp [hj, hjb])
    clear hall hlt
    have e1 : (⟨#[123]⟩ : ByteArray).size = 1 := rfl
    have e2 : (⟨#[125]⟩ : ByteArray).size = 1 := rfl
    have e3 : ((⟨#[123]⟩ : ByteArray) ++ cm).size = 1 + cm.size := by rw [ByteArray.size_append]; rfl
    refine rr ?_
    have h0 : (⟨#[123]⟩ : ByteArray) ++ cm ++ ⟨#[125]⟩ = bs (123 :: txt cm ++ [125]) := by
      rw [← bs_txt cm]
      show bs [123] ++ bs (txt cm) ++ bs [125] = _
      rw [bs_append, bs_append, bs_txt]; rfl
    rw [h0]
    refine w_loop (α := List UInt8) (fun x => [(0, .string s), (1, .int .u8 c), (8, .string (bs (123 :: txt cm ++ [125] ++ x))), (40, .int .i64 (x.length : Int))]) (fun _ => []) (fun x => x.length ≤ 8 ∧ ∀ b ∈ x, isBlank b = true) (fun x => 8 - x.length) [] ⟨rfl, rfl, by rw [List.append_nil]; rfl, rfl, trivial⟩ rfl ⟨by decide, by simp⟩ ?_
    rintro x ⟨hx, hbl⟩ K2 hK2
    have hsz : (bs (123 :: txt cm ++ [125] ++ x)).size = cm.size + 2 + x.length := by rw [bs_size]; simp [txt_len]; omega
    by_cases hlt : x.length < 8
    · obtain ⟨j, hj, hrem⟩ := rem4 c (min (x.length : Int).toNat IntKind.i64.bits) hc0
      refine rr ?_
      intro b _
      refine rr ?_
      rw [hrem]
      have hj' : j = 0 ∨ j = 1 ∨ j = 2 ∨ j = 3 := by omega
      rcases hj' with rfl | rfl | rfl | rfl
      · refine rr ?_
        refine w_sub [] rfl ?_
        refine w_round hK2 (x ++ [32]) ⟨by simp; omega, by intro b hb; rcases List.mem_append.1 hb with hb | hb; exact hbl b hb; simp at hb; subst hb; decide⟩ (by show 8 - (x ++ [32]).length < 8 - x.length; simp; omega) rfl ⟨rfl, rfl, ?_, ?_, trivial⟩
        · show some (Value.string (bs (123 :: txt cm ++ [125] ++ x) ++ bs [32])) = _
          rw [bs_append, List.append_assoc]
        · rw [List.length_append]; rfl
      · refine rr ?_
        refine w_sub [] rfl ?_
        refine w_round hK2 (x ++ [10]) ⟨by simp; omega, by intro b hb; rcases List.mem_append.1 hb with hb | hb; exact hbl b hb; simp at hb; subst hb; decide⟩ (by show 8 - (x ++ [10]).length < 8 - x.length; simp; omega) rfl ⟨rfl, rfl, ?_, ?_, trivial⟩
        · show some (Value.string (bs (123 :: txt cm ++ [125] ++ x) ++ bs [10])) = _
          rw [bs_append, List.append_assoc]
        · rw [List.length_append]; rfl
      · refine rr ?_
        refine w_sub [] rfl ?_
        refine w_round hK2 (x ++ [9]) ⟨by simp; omega, by intro b hb; rcases List.mem_append.1 hb with hb | hb; exact hbl b hb; simp at hb; subst hb; decide⟩ (by show 8 - (x ++ [9]).length < 8 - x.length; simp; omega) rfl ⟨rfl, rfl, ?_, ?_, trivial⟩
        · show some (Value.string (bs (123 :: txt cm ++ [125] ++ x) ++ bs [9])) = _
          rw [bs_append, List.append_assoc]
        · rw [List.length_append]; rfl
      · refine rr ?_
        refine w_sub [] rfl ?_
        refine w_round hK2 (x ++ [13]) ⟨by simp; omega, by intro b hb; rcases List.mem_append.1 hb with hb | hb; exact hbl b hb; simp at hb; subst hb; decide⟩ (by show 8 - (x ++ [13]).length < 8 - x.length; simp; omega) rfl ⟨rfl, rfl, ?_, ?_, trivial⟩
        · show some (Value.string (bs (123 :: txt cm ++ [125] ++ x) ++ bs [13])) = _
          rw [bs_append, List.append_assoc]
        · rw [List.length_append]; rfl
    · have hx8 : x.length = 8 := by omega
      rw [hx8] at hsz
      generalize hA : bs (123 :: txt cm ++ [125] ++ x) = A at hsz
      have hsc : scanD 0 (txt (A ++ s)) = shiftR A.size (scanD 0 (txt s)) := by
        rw [bs_txt_app, ← hA, txt_bs, show 123 :: txt cm ++ [125] ++ x ++ txt s = 123 :: txt cm ++ 125 :: (x ++ txt s) by simp, scan_ahead _ _ _ hcm hbl, bs_size]
        congr 1; simp; omega
      have hsz2 : (A ++ s).size = A.size + s.size := ByteArray.size_append
      refine rr ?_
      refine ca [] (scanC s (by omega)) ?_
      intro x hx
      try simp only [List.cons_append, List.nil_append, List.append_nil]
      obtain ⟨a1, c1⟩ := x
      dsimp only
      refine rr ?_
      refine ca [] (scanC (A ++ s) (by omega)) ?_
      intro x hx
      try simp only [List.cons_append, List.nil_append, List.append_nil]
      obtain ⟨a2, c2⟩ := x
      dsimp only
      rw [hsc]
      have hmany := scanD_len _ 0 (txt s) (Nat.le_refl _)
      rw [txt_len] at hmany
      obtain ⟨hst, _, hbad⟩ := scan_all (txt s)
      have hres := scanD_res _ 0 (txt s) (Nat.le_refl _)
      generalize scanD 0 (txt s) = res at hmany hst hbad hres
      rw [shift_mix]
      unfold scanV
      have hl2 : (shiftR A.size res).1.length = res.1.length := by simp [shiftR]
      have hl3 : (shiftR A.size res).2.2 = res.2.2 := rfl
      have hl4 : (shiftR A.size res).2.1 = if res.2.2 = 0 then res.2.1 else res.2.1 + A.size := rfl
      rw [hl2, hl3, hl4, mixT_len]
      have hlen := tokC_len res.1
      by_cases he : res.2.2 = 0
      · rw [if_pos he]
        have he0 : (res.2.2 != 0) = false := by rw [he]; decide
        have he1 : (res.2.2 != res.2.2) = false := by simp
        refine rr ?_
        refine w_loop (α := Nat) (fun k => [(8, .string A), (10, .slice a1 res.1.length c1), (13, .slice a2 res.1.length c2), (91, .int .i64 (res.1.length : Int)), (92, .int .i64 (k : Int))]) (fun k => [row a2 c2 32 4 res.1.length (tokC (mixT A.size k res.1)), row a1 c1 32 4 res.1.length (tokC res.1)]) (fun k => k ≤ res.1.length) (fun k => res.1.length - k) 0 ⟨rfl, rfl, rfl, rfl, rfl, trivial⟩ rfl (Nat.zero_le _) ?_
        rintro k hk K3 hK3
        by_cases hlt : k < res.1.length
        · obtain ⟨t, ht⟩ := list_get hlt
          have hg := tok_get ht
          have hg2 := tok_get (mixT_get' (d := A.size) ht)
          have hlen2 := tokC_len (mixT A.size k res.1)
          have hlen3 := tokC_len (mixT A.size (k + 1) res.1)
          rw [mixT_len] at hlen2 hlen3
          have hb1 := (hst t (List.mem_of_getElem? ht)).1
          rw [txt_len] at hb1
          have hcell : (tokC (mixT A.size k res.1))[0 + (k : Int).toNat * 4 + 3]? = some (.int .i64 ((t.2 + A.size : Nat) : Int)) := by
            rw [show 0 + (k : Int).toNat * 4 + 3 = 4 * k + 3 by omega, tokC_at (mixT_get ht) 3 (by decide)]; rfl
          have hset : ∀ v, v = Value.int .i64 (t.2 : Int) → (tokC (mixT A.size k res.1)).set (0 + (k : Int).toNat * 4 + 3) v = tokC (mixT A.size (k + 1) res.1) := by
            intro v hv
            rw [hv, show 0 + (k : Int).toNat * 4 + 3 = 4 * k + 3 by omega, tokC_set (t := t) (mixT_get ht) rfl, mixT_set ht]
          refine w_use (fun w hw => (hw.pick 0 rfl).row_some (by first | omega | decide | (simp; done) | (simp <;> omega))) ?_
          rintro ⟨g2, rfl⟩
          refine w_use (fun w hw => (hw.pick 1 rfl).row_some (by first | omega | decide | (simp; done) | (simp <;> omega))) ?_
          rintro ⟨g1, rfl⟩
          refine rr ?_
          rw [hset _ (by congr 1; omega)]
          refine dr [0, 1, 2, 3, 4, 5, 6, 7, 8] [3, 7] [0, 1] ?_
          refine rr ?_
          exact w_round hK3 (k + 1) (by show k + 1 ≤ res.1.length; omega) (by show res.1.length - (k + 1) < res.1.length - k; omega) rfl ⟨rfl, rfl, rfl, rfl, rfl, trivial⟩
        · refine rr ?_
          refine ca [] awakeC ?_
          intro x hx
          try simp only [List.cons_append, List.nil_append, List.append_nil]
          refine rr ?_
          exact we () [] trivial
      · rw [if_neg he]
        have hr : res.1 = [] := by rcases hres with h | h; exact absurd h he; exact h
        have hpl : res.2.1 < s.size := by rw [← txt_len]; exact hbad he
        obtain ⟨l, pl, e⟩ := res
        dsimp only at hr he hpl ⊢
        subst hr
        have he0 : (e != 0) = true := by simp [he]
        have he1 : (e != e) = false := by simp
        have he2 : (((pl + A.size : Nat) : Int) != (pl : Int) + (A.size : Int)) = false := by simp
        refine rr ?_
        rw [he1]
        refine rr ?_
        refine w_sub [] rfl ?_
        refine w_loop (α := Unit) (fun _ => [(91, .int .i64 0), (92, .int .i64 0)]) (fun _ => []) (fun _ => True) (fun _ => 0) () ⟨rfl, rfl, trivial⟩ rfl trivial ?_
        intro _ _ K3 hK3
        refine rr ?_
        refine ca [] awakeC ?_
        intro x hx
        try simp only [List.cons_append, List.nil_append, List.append_nil]
        refine rr ?_
        exact we () [] trivial
end Go.Proofs.Yteafgnbkeghmdaa

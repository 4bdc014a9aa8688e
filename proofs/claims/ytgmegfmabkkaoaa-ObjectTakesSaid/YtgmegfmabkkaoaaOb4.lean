/- The reference's Right of objects: the same. -/
import Derived.Test.YtgmegfmabkkaoaaOb3
namespace Go.Proofs.Ytgmegfmabkkaoaa
open Go Go.Sx Go.Sx.Chunk
set_option linter.unusedVariables false
set_option linter.unusedSimpArgs false

theorem goodO_parts (o : Ob) : goodO o = true ↔ (o.exps.all (goodE o.code.length) = true ∧ nameF o.name = true ∧ o.code.length ≤ 4096 ∧ o.code.any (fun i => !goodI i) = false ∧ 0 ≤ o.data ∧ o.data ≤ 32000 ∧ (chkL [] (o.exps.map Sy.name) = true ∧ o.exps.length ≤ 255) ∧ (chkL [] o.imps = true ∧ o.imps.length ≤ 255) ∧ o.pats.length ≤ 4096 ∧ o.pats.any (fun p => !goodP o.code.length o.imps.length p) = false) := by
  unfold goodO aloneF
  simp only [Bool.and_eq_true, decide_eq_true_eq, Bool.not_eq_true', List.length_map]
theorem inL_take_false {l : List ByteArray} {k : Nat} {s a : ByteArray} (h : l[k]? = some a) (ht : inL s (l.take k) = false) (hne : a ≠ s) : inL s (l.take (k + 1)) = false := by
  rw [take_snoc h, inL_app, ht]
  simp [inL, hne]
theorem inL_take_true {l : List ByteArray} {j k : Nat} {s a : ByteArray} (h : l[j]? = some a) (hjk : j < k) (he : a = s) : inL s (l.take k) = true := by
  unfold inL
  rw [List.any_eq_true]
  exact ⟨a, List.mem_of_getElem? (i := j) (by rw [List.getElem?_take, if_pos hjk, h]), by simp [he]⟩
theorem goodP_parts (nC nI : Nat) (p : Pa) : goodP nC nI p = false ↔ (p.pl < 0 ∨ (nC : Int) ≤ p.pl ∨ p.kind < 0 ∨ 4 < p.kind ∨ p.n < 0 ∨ (if p.kind = 2 then (nI : Int) - 1 else 0) < p.n) := by
  unfold goodP
  by_cases h : p.kind = 2
  · simp [h]; omega
  · simp [h]; omega
set_option maxHeartbeats 16000000 in
theorem right14C (o : Ob) (hok : OkOb o) : FnC (α := Unit) Try.prog 13 [obG o] [] (obS o) (fun _ => .bool (goodO o)) (fun _ => []) (fun _ => True) := by
  have hcl := hok.code
  have hel := hok.exps
  have hil := hok.imps
  have hpl := hok.pats
  obtain ⟨name, ka, kc, code, data, ea, ec, exps, ia, ic, imps, pa, pc, pats⟩ := o
  have hns : name.size ≤ maxLen := hok.name
  have hens := hok.ens
  have hins := hok.ins
  have hG := goodO_parts ⟨name, ka, kc, code, data, ea, ec, exps, ia, ic, imps, pa, pc, pats⟩
  generalize goodO ⟨name, ka, kc, code, data, ea, ec, exps, ia, ic, imps, pa, pc, pats⟩ = G at hG ⊢
  unfold obG obS
  dsimp only at hG hcl hel hil hpl hens hins ⊢
  refine fn_intro Try.func13 Try.ntmps13 rfl rfl rfl (fun w0 => ?_)
  try simp only [List.cons_append, List.nil_append, List.append_nil]
  refine rr ?_
  intro b _
  refine rr ?_
  refine ca [] (nameC name hns) ?_
  intro x hx
  try simp only [List.cons_append, List.nil_append, List.append_nil]
  cases hn : nameF name with
  | false =>
    have hf : G = false := by rw [Bool.eq_false_iff]; intro h; have := hG.1 h; rw [hn] at this; simp at this
    rw [hf]
    refine rr ?_
    exact we () [] trivial
  | true =>
  by_cases h1 : 4096 < code.length
  · have hf : G = false := by rw [Bool.eq_false_iff]; intro h; have := hG.1 h; omega
    rw [hf]
    refine rr ?_
    exact we () [] trivial
  by_cases h2 : data < 0
  · have hf : G = false := by rw [Bool.eq_false_iff]; intro h; have := hG.1 h; omega
    rw [hf]
    refine rr ?_
    exact we () [] trivial
  by_cases h3 : 32000 < data
  · have hf : G = false := by rw [Bool.eq_false_iff]; intro h; have := hG.1 h; omega
    rw [hf]
    refine rr ?_
    exact we () [] trivial
  by_cases h4 : 255 < exps.length
  · have hf : G = false := by rw [Bool.eq_false_iff]; intro h; have := hG.1 h; omega
    rw [hf]
    refine rr ?_
    exact we () [] trivial
  by_cases h5 : 255 < imps.length
  · have hf : G = false := by rw [Bool.eq_false_iff]; intro h; have := hG.1 h; omega
    rw [hf]
    refine rr ?_
    exact we () [] trivial
  by_cases h6 : 4096 < pats.length
  · have hf : G = false := by rw [Bool.eq_false_iff]; intro h; have := hG.1 h; omega
    rw [hf]
    refine rr ?_
    exact we () [] trivial
  refine rr ?_
  -- the code
  refine w_loop (α := Nat) (fun k => [(1, .pointer (some ⟨b, 0, none⟩)), (3, .int .i64 (k : Int))])
    (fun k => [blk b [.string name, .slice ka code.length kc, .int .i64 data, .slice ea exps.length ec, .slice ia imps.length ic, .slice pa pats.length pc] 31, rng ka (insC code), rng ea (syC exps), rng ia (strC imps), rng pa (paC pats)])
    (fun k => k ≤ code.length ∧ (code.take k).any (fun i => !goodI i) = false) (fun k => code.length - k) 0 ⟨rfl, rfl, trivial⟩ rfl ⟨Nat.zero_le _, rfl⟩ ?_
  rintro k ⟨hk, hany⟩ K1 hK1
  by_cases hlt : k < code.length
  · obtain ⟨e, he⟩ := some_at hlt
    have hall : ((insC code).drop ((k : Int).toNat * 5)).take 5 = [.int .i64 e.op, .int .i64 e.a, .int .i64 e.b, .int .i64 e.c, .int .i64 e.imm] := insC_all he _ (by omega)
    have hlen := insC_len code
    refine w_use (fun w hw => (hw.pick 1 rfl).rng_some (by first | omega | decide | (simp; done) | (simp <;> omega))) ?_
    rintro ⟨g1, rfl⟩
    refine rr ?_
    refine ca [] (right02C e) ?_
    intro x hx
    try simp only [List.cons_append, List.nil_append, List.append_nil]
    cases hg : goodI e with
    | true =>
      refine rr ?_
      exact w_round hK1 (k + 1) ⟨by omega, any_step he (by rw [hg]; rfl) hany⟩ (by show code.length - (k + 1) < code.length - k; omega) rfl ⟨rfl, rfl, trivial⟩
    | false =>
      have hf : G = false := by rw [Bool.eq_false_iff]; intro h; have := (hG.1 h).2.2.2.1; rw [any_hit he (by rw [hg]; rfl)] at this; cases this
      rw [hf]
      refine rr ?_
      exact we () [] trivial
  obtain rfl : k = code.length := by omega
  rw [List.take_length] at hany
  refine rr ?_
  -- the exports
  refine w_loop (α := Nat) (fun k => [(1, .pointer (some ⟨b, 0, none⟩)), (4, .int .i64 (k : Int))])
    (fun k => [blk b [.string name, .slice ka code.length kc, .int .i64 data, .slice ea exps.length ec, .slice ia imps.length ic, .slice pa pats.length pc] 31, rng ka (insC code), rng ea (syC exps), rng ia (strC imps), rng pa (paC pats)])
    (fun k => k ≤ exps.length ∧ (exps.take k).all (goodE code.length) = true ∧ chkL [] (exps.map Sy.name) = chkL ((exps.map Sy.name).take k) ((exps.map Sy.name).drop k)) (fun k => exps.length - k) 0 ⟨rfl, rfl, trivial⟩ rfl ⟨Nat.zero_le _, rfl, rfl⟩ ?_
  rintro k ⟨hk, hE, hchk⟩ K2 hK2
  by_cases hlt2 : k < exps.length
  · obtain ⟨e, he⟩ := some_at hlt2
    have hen : (exps.map Sy.name)[k]? = some e.name := by simp [he]
    have e0 : (syC exps)[(k : Int).toNat * 2 + 0]? = some (.string e.name) := syC_at he 0 (by decide) _ (by omega)
    have e1 : (syC exps)[(k : Int).toNat * 2 + 1]? = some (.int .i64 e.pl) := syC_at he 1 (by decide) _ (by omega)
    have hlen := syC_len exps
    have hsz := hens e (List.mem_of_getElem? he)
    have hstep := chkL_step ((exps.map Sy.name).take k) hen
    refine w_use (fun w hw => (hw.pick 2 rfl).rng_some (by first | omega | decide | (simp; done) | (simp <;> omega))) ?_
    rintro ⟨g1, rfl⟩
    refine rr ?_
    refine dr [0, 1, 2, 3, 4, 5, 6, 7, 8, 9, 10, 11, 12, 13, 14, 15, 16, 17, 18, 19, 20, 21, 22, 23, 24, 25, 26, 27, 28] [1, 5, 10, 14, 19, 23, 25] [0, 2, 0, 2, 0, 2, 0] ?_
    refine rr ?_
    refine cad [] (nameC e.name hsz) ?_
    intro x hx
    try simp only [List.cons_append, List.nil_append, List.append_nil]
    cases hn1 : nameF e.name with
    | false =>
      have hf : G = false := by rw [Bool.eq_false_iff]; intro h; have := (hG.1 h).2.2.2.2.2.2.1.1; rw [hchk, hstep, hn1] at this; simp at this
      rw [hf]
      refine rr ?_
      exact we () [] trivial
    | true =>
    by_cases h7 : e.pl < 0
    · have hf : G = false := by rw [Bool.eq_false_iff]; intro h; have := (hG.1 h).1; rw [all_bad he (by simp [goodE]; omega)] at this; cases this
      rw [hf]
      refine rr ?_
      exact we () [] trivial
    by_cases h8 : (code.length : Int) < e.pl
    · have hf : G = false := by rw [Bool.eq_false_iff]; intro h; have := (hG.1 h).1; rw [all_bad he (by simp [goodE]; omega)] at this; cases this
      rw [hf]
      refine rr ?_
      exact we () [] trivial
    have hge : goodE code.length e = true := by simp [goodE]; omega
    refine rr ?_
    refine w_loop (α := Nat) (fun j => [(1, .pointer (some ⟨b, 0, none⟩)), (4, .int .i64 (k : Int)), (5, .int .i64 (j : Int))])
      (fun j => [blk b [.string name, .slice ka code.length kc, .int .i64 data, .slice (some g1) exps.length ec, .slice ia imps.length ic, .slice pa pats.length pc] 31, rng ka (insC code), rng (some g1) (syC exps), rng ia (strC imps), rng pa (paC pats)])
      (fun j => j ≤ k ∧ inL e.name ((exps.map Sy.name).take j) = false) (fun j => k - j) 0 ⟨rfl, rfl, rfl, trivial⟩ rfl ⟨Nat.zero_le _, rfl⟩ ?_
    rintro j ⟨hj, hin⟩ K3 hK3
    by_cases hjk : j < k
    · obtain ⟨e', he'⟩ := some_at (l := exps) (k := j) (by omega)
      have hen' : (exps.map Sy.name)[j]? = some e'.name := by simp [he']
      have e0' : (syC exps)[(j : Int).toNat * 2 + 0]? = some (.string e'.name) := syC_at he' 0 (by decide) _ (by omega)
      by_cases heq : e'.name = e.name
      · have hf : G = false := by rw [Bool.eq_false_iff]; intro h; have := (hG.1 h).2.2.2.2.2.2.1.1; rw [hchk, hstep, inL_take_true hen' hjk heq] at this; simp at this
        rw [hf]
        have hd : decide (e'.name = e.name) = true := decide_eq_true heq
        refine rr ?_
        refine dr [0, 1, 2, 3, 4, 5, 6, 7, 8, 9, 10, 11, 12] [1, 5, 7, 11] [0, 2, 0, 2] ?_
        refine rr ?_
        exact we () [] trivial
      · have hd : decide (e'.name = e.name) = false := decide_eq_false heq
        refine rr ?_
        refine dr [0, 1, 2, 3, 4, 5, 6, 7, 8, 9, 10, 11, 12] [1, 5, 7, 11] [0, 2, 0, 2] ?_
        refine rr ?_
        exact w_round hK3 (j + 1) ⟨by omega, inL_take_false hen' hin heq⟩ (by show k - (j + 1) < k - j; omega) rfl ⟨rfl, rfl, rfl, trivial⟩
    · obtain rfl : j = k := by omega
      refine rr ?_
      refine w_round hK2 (j + 1) ⟨by omega, all_take he hge hE, ?_⟩ (by show exps.length - (j + 1) < exps.length - j; omega) rfl ⟨rfl, rfl, trivial⟩
      rw [hchk, hstep, hn1, hin, take_snoc hen]; rfl
  obtain rfl : k = exps.length := by omega
  rw [List.take_length] at hE
  rw [List.drop_of_length_le (by simp)] at hchk
  have hchk1 : chkL [] (exps.map Sy.name) = true := by rw [hchk]; simp [chkL]
  refine rr ?_
  -- the imports
  refine w_loop (α := Nat) (fun k => [(1, .pointer (some ⟨b, 0, none⟩)), (6, .int .i64 (k : Int))])
    (fun k => [blk b [.string name, .slice ka code.length kc, .int .i64 data, .slice ea exps.length ec, .slice ia imps.length ic, .slice pa pats.length pc] 31, rng ka (insC code), rng ea (syC exps), rng ia (strC imps), rng pa (paC pats)])
    (fun k => k ≤ imps.length ∧ chkL [] imps = chkL (imps.take k) (imps.drop k)) (fun k => imps.length - k) 0 ⟨rfl, rfl, trivial⟩ rfl ⟨Nat.zero_le _, rfl⟩ ?_
  rintro k ⟨hk, hchk2⟩ K4 hK4
  by_cases hlt3 : k < imps.length
  · obtain ⟨e, he⟩ := some_at hlt3
    have e0 : (strC imps)[(k : Int).toNat * 1]? = some (.string e) := by rw [show (k : Int).toNat * 1 = k by omega]; exact strC_at he
    have hlen := strC_len imps
    have hsz := hins e (List.mem_of_getElem? he)
    have hstep := chkL_step (imps.take k) he
    refine w_use (fun w hw => (hw.pick 3 rfl).rng_some (by first | omega | decide | (simp; done) | (simp <;> omega))) ?_
    rintro ⟨g1, rfl⟩
    refine rr ?_
    refine ca [] (nameC e hsz) ?_
    intro x hx
    try simp only [List.cons_append, List.nil_append, List.append_nil]
    cases hn1 : nameF e with
    | false =>
      have hf : G = false := by rw [Bool.eq_false_iff]; intro h; have := (hG.1 h).2.2.2.2.2.2.2.1.1; rw [hchk2, hstep, hn1] at this; simp at this
      rw [hf]
      refine rr ?_
      exact we () [] trivial
    | true =>
    refine rr ?_
    refine w_loop (α := Nat) (fun j => [(1, .pointer (some ⟨b, 0, none⟩)), (6, .int .i64 (k : Int)), (7, .int .i64 (j : Int))])
      (fun j => [blk b [.string name, .slice ka code.length kc, .int .i64 data, .slice ea exps.length ec, .slice (some g1) imps.length ic, .slice pa pats.length pc] 31, rng ka (insC code), rng ea (syC exps), rng (some g1) (strC imps), rng pa (paC pats)])
      (fun j => j ≤ k ∧ inL e (imps.take j) = false) (fun j => k - j) 0 ⟨rfl, rfl, rfl, trivial⟩ rfl ⟨Nat.zero_le _, rfl⟩ ?_
    rintro j ⟨hj, hin⟩ K3 hK3
    by_cases hjk : j < k
    · obtain ⟨e', he'⟩ := some_at (l := imps) (k := j) (by omega)
      have e0' : (strC imps)[(j : Int).toNat * 1]? = some (.string e') := by rw [show (j : Int).toNat * 1 = j by omega]; exact strC_at he'
      by_cases heq : e' = e
      · have hf : G = false := by rw [Bool.eq_false_iff]; intro h; have := (hG.1 h).2.2.2.2.2.2.2.1.1; rw [hchk2, hstep, inL_take_true he' hjk heq] at this; simp at this
        rw [hf]
        have hd : decide (e' = e) = true := decide_eq_true heq
        refine rr ?_
        refine dr [0, 1, 2, 3, 4, 5, 6, 7, 8, 9, 10] [1, 4, 6, 9] [0, 3, 0, 3] ?_
        refine rr ?_
        exact we () [] trivial
      · have hd : decide (e' = e) = false := decide_eq_false heq
        refine rr ?_
        refine dr [0, 1, 2, 3, 4, 5, 6, 7, 8, 9, 10] [1, 4, 6, 9] [0, 3, 0, 3] ?_
        refine rr ?_
        exact w_round hK3 (j + 1) ⟨by omega, inL_take_false he' hin heq⟩ (by show k - (j + 1) < k - j; omega) rfl ⟨rfl, rfl, rfl, trivial⟩
    · obtain rfl : j = k := by omega
      refine rr ?_
      refine w_round hK4 (j + 1) ⟨by omega, ?_⟩ (by show imps.length - (j + 1) < imps.length - j; omega) rfl ⟨rfl, rfl, trivial⟩
      rw [hchk2, hstep, hn1, hin, take_snoc he]; rfl
  obtain rfl : k = imps.length := by omega
  rw [List.drop_length] at hchk2
  have hchk3 : chkL [] imps = true := by rw [hchk2]; simp [chkL]
  refine rr ?_
  -- the patches
  refine w_loop (α := Nat) (fun k => [(1, .pointer (some ⟨b, 0, none⟩)), (8, .int .i64 (k : Int))])
    (fun k => [blk b [.string name, .slice ka code.length kc, .int .i64 data, .slice ea exps.length ec, .slice ia imps.length ic, .slice pa pats.length pc] 31, rng ka (insC code), rng ea (syC exps), rng ia (strC imps), rng pa (paC pats)])
    (fun k => k ≤ pats.length ∧ (pats.take k).any (fun p => !goodP code.length imps.length p) = false) (fun k => pats.length - k) 0 ⟨rfl, rfl, trivial⟩ rfl ⟨Nat.zero_le _, rfl⟩ ?_
  rintro k ⟨hk, hpa⟩ K5 hK5
  by_cases hlt4 : k < pats.length
  · obtain ⟨e, he⟩ := some_at hlt4
    have hall : ((paC pats).drop ((k : Int).toNat * 3)).take 3 = [.int .i64 e.pl, .int .i64 e.kind, .int .i64 e.n] := paC_all he _ (by omega)
    have hlen := paC_len pats
    have hbad : (e.pl < 0 ∨ (code.length : Int) ≤ e.pl ∨ e.kind < 0 ∨ 4 < e.kind ∨ e.n < 0 ∨ (if e.kind = 2 then (imps.length : Int) - 1 else 0) < e.n) → G = false := fun hb => by
      rw [Bool.eq_false_iff]; intro h; have := (hG.1 h).2.2.2.2.2.2.2.2.2; rw [any_hit he (by rw [(goodP_parts _ _ e).2 hb]; rfl)] at this; cases this
    have hgood : ¬ (e.pl < 0 ∨ (code.length : Int) ≤ e.pl ∨ e.kind < 0 ∨ 4 < e.kind ∨ e.n < 0 ∨ (if e.kind = 2 then (imps.length : Int) - 1 else 0) < e.n) → (pats.take (k + 1)).any (fun p => !goodP code.length imps.length p) = false := fun hb => by
      refine any_step he ?_ hpa
      cases h9 : goodP code.length imps.length e
      · exact absurd ((goodP_parts _ _ e).1 h9) hb
      · rfl
    refine w_use (fun w hw => (hw.pick 4 rfl).rng_some (by first | omega | decide | (simp; done) | (simp <;> omega))) ?_
    rintro ⟨g1, rfl⟩
    by_cases hk2 : e.kind = 2
    · rw [if_pos hk2] at hbad hgood
      by_cases c1 : e.pl < 0
      · rw [hbad (by omega)]
        refine rr ?_
        intro b1 _
        refine rr ?_
        exact we () [] trivial
      by_cases c2 : (code.length : Int) ≤ e.pl
      · rw [hbad (by omega)]
        refine rr ?_
        intro b1 _
        refine rr ?_
        exact we () [] trivial
      by_cases c5 : e.n < 0
      · rw [hbad (by omega)]
        refine rr ?_
        intro b1 _
        refine rr ?_
        exact we () [] trivial
      by_cases c6 : (imps.length : Int) - 1 < e.n
      · rw [hbad (by omega)]
        refine rr ?_
        intro b1 _
        refine rr ?_
        exact we () [] trivial
      refine rr ?_
      intro b1 _
      refine rr ?_
      refine w_sub [1, 1, 1, 1, 1] rfl ?_
      exact w_round hK5 (k + 1) ⟨by omega, hgood (by omega)⟩ (by show pats.length - (k + 1) < pats.length - k; omega) rfl ⟨rfl, rfl, trivial⟩
    · rw [if_neg hk2] at hbad hgood
      by_cases c1 : e.pl < 0
      · rw [hbad (by omega)]
        refine rr ?_
        intro b1 _
        refine rr ?_
        exact we () [] trivial
      by_cases c2 : (code.length : Int) ≤ e.pl
      · rw [hbad (by omega)]
        refine rr ?_
        intro b1 _
        refine rr ?_
        exact we () [] trivial
      by_cases c3 : e.kind < 0
      · rw [hbad (by omega)]
        refine rr ?_
        intro b1 _
        refine rr ?_
        exact we () [] trivial
      by_cases c4 : 4 < e.kind
      · rw [hbad (by omega)]
        refine rr ?_
        intro b1 _
        refine rr ?_
        exact we () [] trivial
      by_cases c5 : e.n < 0
      · rw [hbad (by omega)]
        refine rr ?_
        intro b1 _
        refine rr ?_
        exact we () [] trivial
      by_cases c6 : 0 < e.n
      · rw [hbad (by omega)]
        refine rr ?_
        intro b1 _
        refine rr ?_
        exact we () [] trivial
      refine rr ?_
      intro b1 _
      refine rr ?_
      refine w_sub [1, 1, 1, 1, 1] rfl ?_
      exact w_round hK5 (k + 1) ⟨by omega, hgood (by omega)⟩ (by show pats.length - (k + 1) < pats.length - k; omega) rfl ⟨rfl, rfl, trivial⟩
  obtain rfl : k = pats.length := by omega
  rw [List.take_length] at hpa
  have hf : G = true := hG.2 ⟨hE, hn, by omega, hany, by omega, by omega, ⟨hchk1, by omega⟩, ⟨hchk3, by omega⟩, by omega, hpa⟩
  rw [hf]
  refine rr ?_
  exact we () [] trivial
end Go.Proofs.Ytgmegfmabkkaoaa

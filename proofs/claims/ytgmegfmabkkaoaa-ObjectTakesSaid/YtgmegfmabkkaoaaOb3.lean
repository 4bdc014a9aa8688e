/- Objects: Right. -/
import Derived.Test.YtgmegfmabkkaoaaOb2
namespace Go.Proofs.Ytgmegfmabkkaoaa
open Go Go.Sx Go.Sx.Chunk
set_option linter.unusedVariables false
set_option linter.unusedSimpArgs false

def goodE (n : Nat) (x : Sy) : Bool := decide (0 ≤ x.pl) && decide (x.pl ≤ (n : Int))
def goodO (o : Ob) : Bool := o.exps.all (goodE o.code.length) && (nameF o.name && (decide (o.code.length ≤ 4096) && (!o.code.any (fun i => !goodI i) && (decide (0 ≤ o.data) && (decide (o.data ≤ 32000) && (aloneF (o.exps.map Sy.name) && (aloneF o.imps && (decide (o.pats.length ≤ 4096) && !o.pats.any (fun p => !goodP o.code.length o.imps.length p)))))))))
set_option maxHeartbeats 8000000 in
theorem rightOC (o : Ob) (hok : OkOb o) : FnC (α := Unit) Try.prog 14 [obG o] [] (obS o) (fun _ => .bool (goodO o)) (fun _ => []) (fun _ => True) := by
  have hcl := hok.code
  have hel := hok.exps
  have hil := hok.imps
  have hpl := hok.pats
  obtain ⟨name, ka, cc, code, data, ea, ec, exps, ia, ic, imps, pa, pc, pats⟩ := o
  have hns : name.size ≤ maxLen := hok.name
  have hens := hok.ens
  have hins := hok.ins
  generalize hO : goodO ⟨name, ka, cc, code, data, ea, ec, exps, ia, ic, imps, pa, pc, pats⟩ = G
  unfold goodO at hO
  unfold obG obS
  dsimp only at hO hcl hel hil hpl hens hins ⊢
  refine fn_intro Try.func14 Try.ntmps14 rfl rfl rfl (fun w0 => ?_)
  try simp only [List.cons_append, List.nil_append, List.append_nil]
  refine rr ?_
  intro b _
  refine w_turn (fun w hw => hw.row_nil 9 1) ?_
  refine rr ?_
  refine w_loop (α := Nat × Option Addr × Nat) (fun x => [(1, .pointer (some ⟨b, 0, none⟩)), (3, .slice x.2.1 x.1 x.2.2), (7, .slice ea exps.length ec), (8, .int .i64 (exps.length : Int)), (9, .int .i64 (x.1 : Int))])
    (fun x => [row x.2.1 x.2.2 9 1 x.1 (strC ((exps.take x.1).map Sy.name)), blk b [.string name, .slice ka code.length cc, .int .i64 data, .slice ea exps.length ec, .slice ia imps.length ic, .slice pa pats.length pc] 27, rng ka (insC code), rng ea (syC exps), rng ia (strC imps), rng pa (paC pats)])
    (fun x => x.1 ≤ exps.length ∧ (exps.take x.1).all (goodE code.length) = true) (fun x => exps.length - x.1) (0, none, 0) ⟨rfl, rfl, rfl, rfl, rfl, trivial⟩ rfl ⟨Nat.zero_le _, rfl⟩ ?_
  rintro ⟨k, ra, rc⟩ ⟨hk, hall⟩ K1 hK1
  dsimp only at hk hall ⊢
  by_cases hlt : k < exps.length
  · obtain ⟨e, he⟩ := some_at hlt
    have h3 : ((syC exps).drop ((k : Int).toNat * 2)).take 2 = [.string e.name, .int .i64 e.pl] := syC_all he _ (by omega)
    have hsl := syC_len exps
    have hst : strC ((exps.take k).map Sy.name) ++ [Value.string e.name] = strC ((exps.take (k + 1)).map Sy.name) := by rw [take_snoc he]; simp [strC]
    refine w_use (fun w hw => (hw.pick 3 rfl).rng_some (by first | omega | decide | (simp; done) | (simp <;> omega))) ?_
    rintro ⟨g1, rfl⟩
    by_cases h0 : 0 ≤ e.pl
    · by_cases h1 : e.pl ≤ (code.length : Int)
      · have hg : goodE code.length e = true := by simp [goodE, h0, h1]
        refine rr ?_
        intro b1 _
        refine rr ?_
        intro b2 _
        refine rr ?_
        rintro ⟨a1, c1⟩ ⟨hc1, _⟩
        refine rr ?_
        rw [hst]
        refine w_sub [0, 1, 1, 1, 1, 1] rfl ?_
        exact w_round hK1 (k + 1, a1, c1) ⟨by show k + 1 ≤ exps.length; omega, all_take he hg hall⟩ (by show exps.length - (k + 1) < exps.length - k; omega) rfl ⟨rfl, rfl, rfl, rfl, rfl, trivial⟩
      · have hg : goodE code.length e = false := by simp [goodE, h1]
        have hf : G = false := by rw [← hO, all_bad he hg]; rfl
        rw [hf]
        refine rr ?_
        intro b1 _
        refine rr ?_
        exact we () [] trivial
    · have hg : goodE code.length e = false := by simp [goodE, h0]
      have hf : G = false := by rw [← hO, all_bad he hg]; rfl
      rw [hf]
      refine rr ?_
      intro b1 _
      refine rr ?_
      exact we () [] trivial
  · obtain rfl : k = exps.length := by omega
    rw [List.take_length] at hall ⊢
    rw [hall] at hO
    refine rr ?_
    refine ca [] (rightNameC name hns) ?_
    intro x hx
    try simp only [List.cons_append, List.nil_append, List.append_nil]
    generalize nameF name = r1 at hO ⊢
    cases r1
    · subst hO
      refine rr ?_
      exact we () [] trivial
    by_cases h1 : code.length ≤ 4096
    · rw [decide_eq_true h1] at hO
      refine rr ?_
      refine ca [] (containsIC ka cc code (by omega)) ?_
      intro x hx
      try simp only [List.cons_append, List.nil_append, List.append_nil]
      generalize (code.any fun i => !goodI i) = r2 at hO ⊢
      cases r2
      · by_cases h2 : 0 ≤ data
        · by_cases h3 : data ≤ 32000
          · rw [decide_eq_true h2, decide_eq_true h3] at hO
            have hel2 : (exps.map Sy.name).length = exps.length := by simp
            have hA := aloneC ra rc (exps.map Sy.name) (by simp; omega) (fun s hs => by obtain ⟨x, hx, rfl⟩ := List.mem_map.1 hs; exact hens x hx)
            rw [hel2] at hA
            refine rr ?_
            refine ca [] hA ?_
            intro x hx
            try simp only [List.cons_append, List.nil_append, List.append_nil]
            generalize aloneF (exps.map Sy.name) = r3 at hO ⊢
            cases r3
            · subst hO
              refine rr ?_
              exact we () [] trivial
            refine rr ?_
            refine ca [] (aloneC ia ic imps hil hins) ?_
            intro x hx
            try simp only [List.cons_append, List.nil_append, List.append_nil]
            generalize aloneF imps = r4 at hO ⊢
            cases r4
            · subst hO
              refine rr ?_
              exact we () [] trivial
            by_cases h4 : pats.length ≤ 4096
            · rw [decide_eq_true h4] at hO
              refine rr ?_
              refine ca [] (containsPC ⟨name, ka, cc, code, data, ea, ec, exps, ia, ic, imps, pa, pc, pats⟩ b pa pc pats (by omega)) ?_
              intro x hx
              try simp only [List.cons_append, List.nil_append, List.append_nil]
              subst hO
              refine rr ?_
              exact we () [] trivial
            · rw [decide_eq_false h4] at hO
              subst hO
              refine rr ?_
              exact we () [] trivial
          · rw [decide_eq_false h3] at hO
            simp at hO
            subst hO
            refine rr ?_
            exact we () [] trivial
        · rw [decide_eq_false h2] at hO
          subst hO
          refine rr ?_
          exact we () [] trivial
      · subst hO
        refine rr ?_
        exact we () [] trivial
    · rw [decide_eq_false h1] at hO
      subst hO
      refine rr ?_
      exact we () [] trivial
end Go.Proofs.Ytgmegfmabkkaoaa

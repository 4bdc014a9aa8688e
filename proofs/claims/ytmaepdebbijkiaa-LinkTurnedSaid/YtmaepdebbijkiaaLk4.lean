/- The joiner's patch. -/
import Derived.Test.YtmaepdebbijkiaaLk3
namespace Go.Proofs.Ytmaepdebbijkiaa
open Go Go.Sx Go.Sx.Chunk
set_option linter.unusedVariables false
set_option linter.unusedSimpArgs false

def inD : In := ⟨0, 0, 0, 0, 0⟩
/-- What the number of a patched instruction is; none: there is no such name. -/
def numF (b : Ba) (syms : List Sym) (all mem : Int) (imps : List ByteArray) (p : Pa) (n : Int) : Option Int :=
  if p.kind = 0 then some (n + (b.1 : Int)) else if p.kind = 1 then some (n + b.2) else if p.kind = 2 then symF (imps.getD p.n.toNat .empty) syms
  else if p.kind = 3 then some (n - all) else some (n + mem)
/-- One patch: the error, the code. -/
def patchF (code : List In) (b : Ba) (syms : List Sym) (all mem : Int) (imps : List ByteArray) (p : Pa) : Int × List In :=
  let i := code.getD (b.1 + p.pl.toNat) inD
  match numF b syms all mem imps p i.imm with
  | none => (5, code)
  | some n => if goodI ⟨i.op, i.a, i.b, i.c, n⟩ then (0, code.set (b.1 + p.pl.toNat) ⟨i.op, i.a, i.b, i.c, n⟩) else (3, code)
theorem flat_set {α : Type} {cells : α → List Value} {sz : Nat} (hc : ∀ a, (cells a).length = sz) : ∀ {l : List α} {k : Nat} (a : α), k < l.length → (l.flatMap cells).take (k * sz) ++ cells a ++ (l.flatMap cells).drop (k * sz + sz) = (l.set k a).flatMap cells
  | [], k, a, h => by simp at h
  | b :: l, 0, a, h => by
    rw [Nat.zero_mul, List.take_zero, List.nil_append, List.set_cons_zero, List.flatMap_cons, List.flatMap_cons, Nat.zero_add, List.drop_left' (hc b)]
  | b :: l, k + 1, a, h => by
    have ih := flat_set hc (l := l) (k := k) a (by simpa using h)
    rw [List.set_cons_succ, List.flatMap_cons, List.flatMap_cons, ← ih]
    have e1 : (k + 1) * sz = (cells b).length + k * sz := by rw [hc, Nat.add_mul]; omega
    rw [e1, List.take_length_add_append, Nat.add_assoc, List.drop_length_add_append]
    simp
theorem insC_set {code : List In} {k : Nat} (e : In) {N : Nat} (h : k < code.length) (hN : N = k * 5) : (insC code).take N ++ [Value.int .i64 e.op, .int .i64 e.a, .int .i64 e.b, .int .i64 e.c, .int .i64 e.imm] ++ (insC code).drop (N + 5) = insC (code.set k e) := by
  subst hN; exact flat_set (cells := inV) (sz := 5) (fun _ => rfl) e h
theorem goodI_imm {i : In} (h : goodI i = true) : -32768 ≤ i.imm ∧ i.imm ≤ 32767 := by
  unfold goodI at h
  simp only [Bool.and_eq_true, Bool.or_eq_true, decide_eq_true_eq] at h
  rcases h.2 with h | ⟨_, h⟩
  · omega
  · unfold numI fits16 at h
    split at h
    · simp at h; omega
    · split at h
      · simp at h; omega
      · split at h
        · simp at h; omega
        · simp at h; omega
set_option maxHeartbeats 16000000 in
theorem patchC (j g : Nat) (mem all : Int) (ca ba : Option Addr) (cc bn bc : Nat) (code : List In) (syms : List Sym) (o : Ob) (b : Ba) (p : Pa) (hok : OkOb o) (hg : goodP o.code.length o.imps.length p = true) (hb : b.1 + o.code.length ≤ code.length) (hcl : code.length ≤ 5000) (hmem : 0 ≤ mem ∧ mem ≤ 32000) (hall : 0 ≤ all ∧ all ≤ 32000) (hb2 : 0 ≤ b.2 ∧ b.2 ≤ 32000) (hgc : ∀ i ∈ code, goodI i = true) :
    FnC (α := Unit) Try.prog 20 [.pointer (some ⟨j, 0, none⟩), obG o, .agg #[.int .i64 (b.1 : Int), .int .i64 b.2], paG p] [joC j ca code.length cc all ba bn bc g mem, row ca cc 47 5 code.length (insC code), syM g syms] [rng o.ia (strC o.imps)] (fun _ => .int .i64 (patchF code b syms all mem o.imps p).1)
      (fun _ => [joC j ca code.length cc all ba bn bc g mem, row ca cc 47 5 code.length (insC (patchF code b syms all mem o.imps p).2), syM g syms]) (fun _ => True) := by
  have hg' : ¬ goodP o.code.length o.imps.length p = false := by rw [hg]; decide
  rw [goodP_parts] at hg'
  have hlt : b.1 + p.pl.toNat < code.length := by omega
  obtain ⟨e, he⟩ := some_at hlt
  have hgi := hgc e (List.mem_of_getElem? he)
  have hgd : code.getD (b.1 + p.pl.toNat) inD = e := by simp [he]
  have hall5 : ((insC code).drop (0 + ((b.1 : Int) + p.pl).toNat * 5)).take 5 = [.int .i64 e.op, .int .i64 e.a, .int .i64 e.b, .int .i64 e.c, .int .i64 e.imm] := insC_all he _ (by omega)
  have hil := insC_len code
  unfold patchF
  rw [hgd]
  dsimp only
  obtain ⟨onm, oca, occ, ocode, odata, oea, oec, oexps, oia, oic, oimps, opa, opc, opats⟩ := o
  unfold obG paG joC syM
  dsimp only at hg' hb ⊢
  refine fn_intro Try.func20 Try.ntmps20 rfl rfl rfl (fun w0 => ?_)
  try simp only [List.cons_append, List.nil_append, List.append_nil]
  refine w_use (fun w hw => (hw.pick 1 rfl).row_some (by first | omega | decide | (simp; done) | (simp <;> omega))) ?_
  rintro ⟨g1, rfl⟩
  refine rr ?_
  intro b5 _
  refine rr ?_
  intro b6 _
  refine rr ?_
  intro b7 _
  refine rr ?_
  intro b10 _
  refine rr ?_
  have hgr : -32768 ≤ e.imm ∧ e.imm ≤ 32767 := goodI_imm hgi
  unfold numF
  by_cases h0 : p.kind = 0
  · rw [if_pos h0]
    dsimp only
    refine rr ?_
    refine ca [] (rightIC ⟨e.op, e.a, e.b, e.c, (e.imm + (b.1 : Int))⟩) ?_
    intro x hx
    try simp only [List.cons_append, List.nil_append, List.append_nil]
    cases hg2 : goodI ⟨e.op, e.a, e.b, e.c, (e.imm + (b.1 : Int))⟩ with
    | false =>
      refine rr ?_
      exact we () [4, 4, 4] trivial
    | true =>
      refine rr ?_
      refine dr [0, 1, 2, 3, 4, 5, 6, 7, 8] [4, 6] [4, 0] ?_
      refine rr ?_
      have hset := insC_set ⟨e.op, e.a, e.b, e.c, (e.imm + (b.1 : Int))⟩ hlt (N := 0 + ((b.1 : Int) + p.pl).toNat * 5) (by omega)
      dsimp only at hset
      refine w_sub [5, 0, 4] (H' := [_, row (some ⟨g1, 0, none⟩) cc 47 5 code.length (insC (code.set (b.1 + p.pl.toNat) ⟨e.op, e.a, e.b, e.c, (e.imm + (b.1 : Int))⟩)), _]) (by rw [← hset]; rfl) ?_
      exact we () [0, 0, 0] trivial
  · rw [if_neg h0]
    by_cases h1 : p.kind = 1
    · rw [if_pos h1]
      dsimp only
      refine rr ?_
      refine ca [] (rightIC ⟨e.op, e.a, e.b, e.c, (e.imm + b.2)⟩) ?_
      intro x hx
      try simp only [List.cons_append, List.nil_append, List.append_nil]
      cases hg2 : goodI ⟨e.op, e.a, e.b, e.c, (e.imm + b.2)⟩ with
      | false =>
        refine rr ?_
        exact we () [4, 4, 4] trivial
      | true =>
        refine rr ?_
        refine dr [0, 1, 2, 3, 4, 5, 6, 7, 8] [4, 6] [4, 0] ?_
        refine rr ?_
        have hset := insC_set ⟨e.op, e.a, e.b, e.c, (e.imm + b.2)⟩ hlt (N := 0 + ((b.1 : Int) + p.pl).toNat * 5) (by omega)
        dsimp only at hset
        refine w_sub [5, 0, 4] (H' := [_, row (some ⟨g1, 0, none⟩) cc 47 5 code.length (insC (code.set (b.1 + p.pl.toNat) ⟨e.op, e.a, e.b, e.c, (e.imm + b.2)⟩)), _]) (by rw [← hset]; rfl) ?_
        exact we () [0, 0, 0] trivial
    · rw [if_neg h1]
      by_cases h2 : p.kind = 2
      · rw [if_pos h2]
        rw [if_pos h2] at hg'
        have hnl : p.n.toNat < oimps.length := by omega
        obtain ⟨sn, hsn⟩ := some_at hnl
        have hsd : oimps.getD p.n.toNat .empty = sn := by simp [hsn]
        have hst : (strC oimps)[p.n.toNat * 1]? = some (.string sn) := by rw [Nat.mul_one]; exact strC_at hsn
        have hsl := strC_len oimps
        rw [hsd]
        have hat2 := atK_mMap sn syms
        refine w_use (fun w hw => (hw.pick 7 rfl).rng_some (by first | omega | decide | (simp; done) | (simp <;> omega))) ?_
        rintro ⟨g2, rfl⟩
        cases hs : symF sn syms with
        | none =>
          rw [hs] at hat2
          simp only [Option.map_none] at hat2
          dsimp only
          refine rr ?_
          refine dr [0, 1, 2, 3, 4, 5, 6, 7, 8, 9, 10, 11, 12, 13, 14, 15] [3, 5, 7, 9] [4, 3, 1, 7] ?_
          refine rr ?_
          rw [hat2]
          refine rr ?_
          exact we () [4, 4, 4] trivial
        | some to =>
          rw [hs] at hat2
          simp only [Option.map_some] at hat2
          dsimp only
          refine rr ?_
          refine dr [0, 1, 2, 3, 4, 5, 6, 7, 8, 9, 10, 11, 12, 13, 14, 15] [3, 5, 7, 9] [4, 3, 1, 7] ?_
          refine rr ?_
          rw [hat2]
          refine rr ?_
          refine ca [] (rightIC ⟨e.op, e.a, e.b, e.c, to⟩) ?_
          intro x hx
          try simp only [List.cons_append, List.nil_append, List.append_nil]
          cases hg2 : goodI ⟨e.op, e.a, e.b, e.c, to⟩ with
          | false =>
            refine rr ?_
            exact we () [4, 4, 4] trivial
          | true =>
            refine rr ?_
            refine dr [0, 1, 2, 3, 4, 5, 6, 7, 8] [4, 6] [4, 0] ?_
            refine rr ?_
            have hset := insC_set ⟨e.op, e.a, e.b, e.c, to⟩ hlt (N := 0 + ((b.1 : Int) + p.pl).toNat * 5) (by omega)
            dsimp only at hset
            refine w_sub [5, 0, 4] (H' := [_, row (some ⟨g1, 0, none⟩) cc 47 5 code.length (insC (code.set (b.1 + p.pl.toNat) ⟨e.op, e.a, e.b, e.c, to⟩)), _]) (by rw [← hset]; rfl) ?_
            exact we () [0, 0, 0] trivial
      · rw [if_neg h2]
        by_cases h3 : p.kind = 3
        · rw [if_pos h3]
          dsimp only
          refine rr ?_
          refine dr [0, 1, 2, 3, 4, 5, 6, 7, 8, 9] [1, 6] [0, 4] ?_
          refine rr ?_
          refine rr ?_
          refine ca [] (rightIC ⟨e.op, e.a, e.b, e.c, (e.imm - all)⟩) ?_
          intro x hx
          try simp only [List.cons_append, List.nil_append, List.append_nil]
          cases hg2 : goodI ⟨e.op, e.a, e.b, e.c, (e.imm - all)⟩ with
          | false =>
            refine rr ?_
            exact we () [4, 4, 4] trivial
          | true =>
            refine rr ?_
            refine dr [0, 1, 2, 3, 4, 5, 6, 7, 8] [4, 6] [4, 0] ?_
            refine rr ?_
            have hset := insC_set ⟨e.op, e.a, e.b, e.c, (e.imm - all)⟩ hlt (N := 0 + ((b.1 : Int) + p.pl).toNat * 5) (by omega)
            dsimp only at hset
            refine w_sub [5, 0, 4] (H' := [_, row (some ⟨g1, 0, none⟩) cc 47 5 code.length (insC (code.set (b.1 + p.pl.toNat) ⟨e.op, e.a, e.b, e.c, (e.imm - all)⟩)), _]) (by rw [← hset]; rfl) ?_
            exact we () [0, 0, 0] trivial
        · rw [if_neg h3]
          have h4 : p.kind = 4 := by omega
          dsimp only
          refine rr ?_
          refine dr [0, 1, 2, 3, 4, 5, 6, 7, 8] [1, 5] [0, 4] ?_
          refine rr ?_
          refine rr ?_
          refine ca [] (rightIC ⟨e.op, e.a, e.b, e.c, (e.imm + mem)⟩) ?_
          intro x hx
          try simp only [List.cons_append, List.nil_append, List.append_nil]
          cases hg2 : goodI ⟨e.op, e.a, e.b, e.c, (e.imm + mem)⟩ with
          | false =>
            refine rr ?_
            exact we () [4, 4, 4] trivial
          | true =>
            refine rr ?_
            refine dr [0, 1, 2, 3, 4, 5, 6, 7, 8] [4, 6] [4, 0] ?_
            refine rr ?_
            have hset := insC_set ⟨e.op, e.a, e.b, e.c, (e.imm + mem)⟩ hlt (N := 0 + ((b.1 : Int) + p.pl).toNat * 5) (by omega)
            dsimp only at hset
            refine w_sub [5, 0, 4] (H' := [_, row (some ⟨g1, 0, none⟩) cc 47 5 code.length (insC (code.set (b.1 + p.pl.toNat) ⟨e.op, e.a, e.b, e.c, (e.imm + mem)⟩)), _]) (by rw [← hset]; rfl) ?_
            exact we () [0, 0, 0] trivial
end Go.Proofs.Ytmaepdebbijkiaa

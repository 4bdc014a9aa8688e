/- ScopePlays: is a name what the document says? -/
import Derived.Test.YtdjjlpgphkbehaaSd13
namespace Go.Proofs.Ytdjjlpgphkbehaa
open Go Go.Sx Go.Sx.Chunk
set_option linter.unusedVariables false
set_option linter.unusedSimpArgs false

set_option maxHeartbeats 4000000 in
theorem findsC (b : Nat) (p : Cp) (a : Option Addr) (c : Nat) (l : List R3) (d : Nat) (name : ByteArray) (hv : val3 l d) (hl : l.length ≤ 100) (hd : d ≤ 100) :
    FnC Try.prog 15 [ptrV b, .slice a l.length c, .string name, .int .i64 (d : Int)] (tbH b (esL l) (bsL l d) p ++ [rowR a c l]) [] (fun _ : Cp => .bool true) (fun q => tbH b (esL l) (bsL l d) q ++ [rowR a c l]) (fun _ => True) := by
  have hok := val_ok hv hl hd
  have hbl := bsL_len l d
  refine fn_intro Try.func15 Try.ntmps15 rfl rfl rfl (fun w0 => ?_)
  try simp only [List.cons_append, List.nil_append, List.append_nil]
  rcases find_all hv name with ⟨h1, h2, h3⟩ | ⟨i, e, hi, h1, h2, h3, h4, h5⟩
  · refine rr ?_
    refine ca [0, 0, 0] (findC b p (esL l) (bsL l d) name _ hok h2) ?_
    intro x hx
    try simp only [List.cons_append, List.nil_append, List.append_nil]
    unfold findV
    dsimp only
    refine rr ?_
    refine ca [3] (bestC a c l name (by omega)) ?_
    intro x hx
    try simp only [List.cons_append, List.nil_append, List.append_nil]
    rw [h1]
    refine rr ?_
    refine ca [1, 1, 1] (depthC b _ (esL l) (bsL l d)) ?_
    intro x hx
    try simp only [List.cons_append, List.nil_append, List.append_nil]
    rw [hbl]
    refine rr ?_
    refine we x [0, 0, 0, 0] trivial (hv := ?_)
    show Value.bool ((d : Int) == (d : Int)) = _
    simp
  · have hlt : i < l.length := (List.getElem?_eq_some_iff.1 hi).1
    have e1 : (r3C l)[0 + (i : Int).toNat * 3 + 1]? = some (.int .i64 e.2.1) := r3C_at hi 1 (by decide) _ (by omega)
    have e2 : (r3C l)[0 + (i : Int).toNat * 3 + 2]? = some (.int .i64 (e.2.2 : Int)) := r3C_at hi 2 (by decide) _ (by omega)
    have hll := r3C_len l
    unfold rowR
    refine w_use (fun w hw => (hw.pick 3 rfl).row_some (by first | omega | decide | (simp; done) | (simp <;> omega))) ?_
    rintro ⟨g1, rfl⟩
    refine rr ?_
    refine ca [0, 0, 0] (findC b p (esL l) (bsL l d) name _ hok h4) ?_
    intro x hx
    try simp only [List.cons_append, List.nil_append, List.append_nil]
    unfold findV
    dsimp only
    refine rr ?_
    refine ca [3] (bestC _ c l name (by omega)) ?_
    intro x hx
    try simp only [List.cons_append, List.nil_append, List.append_nil]
    rw [h1]
    unfold rowR
    refine rr ?_
    refine ca [1, 1, 1] (depthC b _ (esL l) (bsL l d)) ?_
    intro x hx
    try simp only [List.cons_append, List.nil_append, List.append_nil]
    rw [hbl]
    refine rr ?_
    refine we x [0, 0, 0, 0] trivial (hv := ?_)
    show Value.bool ((d : Int) == (d : Int)) = _
    simp
end Go.Proofs.Ytdjjlpgphkbehaa

/- Small things. -/
import Derived.Test.YtgmegfmabkkaoaaRf4
namespace Go.Proofs.Ytgmegfmabkkaoaa
open Go Go.Sx Go.Sx.Chunk
set_option linter.unusedVariables false
set_option linter.unusedSimpArgs false

theorem ok_canon {o p : Ob} (h : canon p = canon o) (hok : OkOb o) : OkOb p := by
  obtain ⟨n1, a1, c1, code1, d1, ea1, ec1, e1, ia1, ic1, i1, pa1, pc1, p1⟩ := o
  obtain ⟨n2, a2, c2, code2, d2, ea2, ec2, e2, ia2, ic2, i2, pa2, pc2, p2⟩ := p
  unfold canon at h
  simp only [Ob.mk.injEq, true_and, and_true] at h
  obtain ⟨rfl, rfl, rfl, rfl, rfl, rfl⟩ := h
  exact ⟨hok.name, hok.code, hok.exps, hok.imps, hok.pats, hok.ens, hok.ins⟩
theorem put_len {o : Ob} (hg : goodO o = true) : (putF o).length ≤ 1000000 := by
  have g := goodP_of hg
  have h1 := exB_len (l := o.exps) (fun x hx => (nameF_len (g.exn x hx).1).2)
  have h2 := imB_len (l := o.imps) (fun x hx => (nameF_len (g.imn x hx)).2)
  have h3 := g.code
  have h4 := g.exps
  have h5 := g.imps
  have h6 := g.pats
  have h7 := (nameF_len g.name).2
  unfold putF
  simp only [List.length_append, fourB_len, codeB_len, paB_len, nameB_len, List.length_cons, List.length_nil]
  have h8 : dsF.length = 2 := rfl
  omega
end Go.Proofs.Ytgmegfmabkkaoaa

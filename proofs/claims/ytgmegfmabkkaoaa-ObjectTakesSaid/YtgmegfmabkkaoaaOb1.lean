/- Objects: what they are; which instructions and patches are right. -/
import Derived.Test.YtgmegfmabkkaoaaIs2
import Derived.Test.YtgmegfmabkkaoaaNm2
import Derived.Test.YtgmegfmabkkaoaaBg1
namespace Go.Proofs.Ytgmegfmabkkaoaa
open Go Go.Sx Go.Sx.Chunk
set_option linter.unusedVariables false
set_option linter.unusedSimpArgs false

def insC (l : List In) : List Value := l.flatMap inV
structure Sy where
  mk ::
  (name : ByteArray) (pl : Int)
deriving DecidableEq
def syV (s : Sy) : List Value := [.string s.name, .int .i64 s.pl]
def syC (l : List Sy) : List Value := l.flatMap syV
structure Pa where
  mk ::
  (pl kind n : Int)
deriving DecidableEq
def paV (p : Pa) : List Value := [.int .i64 p.pl, .int .i64 p.kind, .int .i64 p.n]
def paC (l : List Pa) : List Value := l.flatMap paV
def paG (p : Pa) : Value := .agg #[.int .i64 p.pl, .int .i64 p.kind, .int .i64 p.n]
/-- An object, and where its parts lie. -/
structure Ob where
  mk ::
  (name : ByteArray) (ca : Option Addr) (cc : Nat) (code : List In) (data : Int) (ea : Option Addr) (ec : Nat) (exps : List Sy) (ia : Option Addr) (ic : Nat) (imps : List ByteArray) (pa : Option Addr) (pc : Nat) (pats : List Pa)
def obV (o : Ob) : List Value := [.string o.name, .slice o.ca o.code.length o.cc, .int .i64 o.data, .slice o.ea o.exps.length o.ec, .slice o.ia o.imps.length o.ic, .slice o.pa o.pats.length o.pc]
def obG (o : Ob) : Value := .agg #[.string o.name, .slice o.ca o.code.length o.cc, .int .i64 o.data, .slice o.ea o.exps.length o.ec, .slice o.ia o.imps.length o.ic, .slice o.pa o.pats.length o.pc]
def obS (o : Ob) : List Chunk := [rng o.ca (insC o.code), rng o.ea (syC o.exps), rng o.ia (strC o.imps), rng o.pa (paC o.pats)]
def big : Nat := 8796093021952
/-- Everything has a size that a machine can tell. -/
structure OkOb (o : Ob) : Prop where
  name : o.name.size ≤ maxLen
  code : o.code.length ≤ 3518437208780
  exps : o.exps.length ≤ 5864062014634
  imps : o.imps.length ≤ 8796093021952
  pats : o.pats.length ≤ 5864062014634
  ens : ∀ x ∈ o.exps, x.name.size ≤ maxLen
  ins : ∀ x ∈ o.imps, x.size ≤ maxLen
theorem insC_len (l : List In) : (insC l).length = l.length * 5 := flat_len (cells := inV) (sz := 5) (fun _ => rfl) l
theorem syC_len (l : List Sy) : (syC l).length = l.length * 2 := flat_len (cells := syV) (sz := 2) (fun _ => rfl) l
theorem paC_len (l : List Pa) : (paC l).length = l.length * 3 := flat_len (cells := paV) (sz := 3) (fun _ => rfl) l
theorem some_at {α : Type} {l : List α} {k : Nat} (h : k < l.length) : ∃ e, l[k]? = some e := ⟨l[k], by simp [h]⟩
theorem insC_all {l : List In} {k : Nat} {e : In} (h : l[k]? = some e) (n : Nat) (hn : n = k * 5) : ((insC l).drop n).take 5 = inV e := by subst hn; exact flat_get (cells := inV) (sz := 5) (fun _ => rfl) h
theorem syC_all {l : List Sy} {k : Nat} {e : Sy} (h : l[k]? = some e) (n : Nat) (hn : n = k * 2) : ((syC l).drop n).take 2 = syV e := by subst hn; exact flat_get (cells := syV) (sz := 2) (fun _ => rfl) h
theorem paC_all {l : List Pa} {k : Nat} {e : Pa} (h : l[k]? = some e) (n : Nat) (hn : n = k * 3) : ((paC l).drop n).take 3 = paV e := by subst hn; exact flat_get (cells := paV) (sz := 3) (fun _ => rfl) h
theorem insC_at {l : List In} {k : Nat} {e : In} (h : l[k]? = some e) (j : Nat) (hj : j < 5) (n : Nat) (hn : n = k * 5 + j) : (insC l)[n]? = (inV e)[j]? := by subst hn; exact flat_at (cells := inV) (sz := 5) (fun _ => rfl) h hj
theorem syC_at {l : List Sy} {k : Nat} {e : Sy} (h : l[k]? = some e) (j : Nat) (hj : j < 2) (n : Nat) (hn : n = k * 2 + j) : (syC l)[n]? = (syV e)[j]? := by subst hn; exact flat_at (cells := syV) (sz := 2) (fun _ => rfl) h hj
theorem paC_at {l : List Pa} {k : Nat} {e : Pa} (h : l[k]? = some e) (j : Nat) (hj : j < 3) (n : Nat) (hn : n = k * 3 + j) : (paC l)[n]? = (paV e)[j]? := by subst hn; exact flat_at (cells := paV) (sz := 3) (fun _ => rfl) h hj

theorem any_step {α : Type} {p : α → Bool} {l : List α} {k : Nat} {a : α} (h : l[k]? = some a) (hp : p a = false) (ht : (l.take k).any p = false) : (l.take (k + 1)).any p = false := by
  rw [List.take_add_one, h, List.any_append, ht]
  simp [hp]
theorem any_hit {α : Type} {p : α → Bool} {l : List α} {k : Nat} {a : α} (h : l[k]? = some a) (hp : p a = true) : l.any p = true := by
  rw [List.any_eq_true]
  exact ⟨a, List.mem_of_getElem? h, hp⟩
theorem wrongIC (i : In) : FnC (α := Unit) Try.prog 27 [inG i] [] [] (fun _ => .bool (!goodI i)) (fun _ => []) (fun _ => True) := by
  unfold inG
  refine fn_intro Try.func27 Try.ntmps27 rfl rfl rfl (fun w0 => ?_)
  try simp only [List.cons_append, List.nil_append, List.append_nil]
  refine rr ?_
  intro b _
  refine rr ?_
  refine ca [] (rightIC i) ?_
  intro x hx
  try simp only [List.cons_append, List.nil_append, List.append_nil]
  refine rr ?_
  exact we () [] trivial
set_option maxHeartbeats 4000000 in
theorem indexIC (a : Option Addr) (c : Nat) (l : List In) (hl : l.length ≤ 8796093021952) :
    FnC Try.prog 48 [.slice a l.length c, .func (.func 27) #[] #[]] [] [rng a (insC l)] (fun v : Int => .int .i64 v) (fun _ => []) (fun v => decide (0 ≤ v) = l.any (fun i => !goodI i)) := by
  refine fn_intro Try.func48 Try.ntmps48 rfl rfl rfl (fun w0 => ?_)
  try simp only [List.cons_append, List.nil_append, List.append_nil]
  refine rr ?_
  refine w_loop (α := Nat) (fun k => [(0, .slice a l.length c), (1, .func (.func 27) #[] #[]), (7, .int .i64 (l.length : Int)), (8, .int .i64 (k : Int))]) (fun k => [rng a (insC l)]) (fun k => k ≤ l.length ∧ (l.take k).any (fun i => !goodI i) = false) (fun k => l.length - k) 0 ⟨rfl, rfl, rfl, rfl, trivial⟩ rfl ⟨Nat.zero_le _, by simp⟩ ?_
  rintro k ⟨hk, hany⟩ K1 hK1
  by_cases hlt : k < l.length
  · obtain ⟨e, he⟩ := some_at hlt
    have hall : ((insC l).drop ((k : Int).toNat * 5)).take 5 = [.int .i64 e.op, .int .i64 e.a, .int .i64 e.b, .int .i64 e.c, .int .i64 e.imm] := insC_all he _ (by omega)
    have hlen := insC_len l
    refine w_use (fun w hw => (hw.pick 0 rfl).rng_some (by first | omega | decide | (simp; done) | (simp <;> omega))) ?_
    rintro ⟨g1, rfl⟩
    refine rr ?_
    refine cav [] (wrongIC e) ?_
    intro x hx
    try simp only [List.cons_append, List.nil_append, List.append_nil]
    cases hg : goodI e with
    | true =>
      refine rr ?_
      exact w_round hK1 (k + 1) ⟨by omega, any_step he (by rw [hg]; rfl) hany⟩ (by show l.length - (k + 1) < l.length - k; omega) rfl ⟨rfl, rfl, rfl, rfl, trivial⟩
    | false =>
      refine rr ?_
      refine we (k : Int) [] (hx := ?_)
      rw [any_hit he (by rw [hg]; rfl)]
      simp
  · obtain rfl : k = l.length := by omega
    rw [List.take_length] at hany
    refine rr ?_
    refine we (-1) [] (hx := ?_)
    rw [hany]
    rfl
theorem containsIC (a : Option Addr) (c : Nat) (l : List In) (hl : l.length ≤ 8796093021952) :
    FnC (α := Unit) Try.prog 26 [.slice a l.length c, .func (.func 27) #[] #[]] [] [rng a (insC l)] (fun _ => .bool (l.any (fun i => !goodI i))) (fun _ => []) (fun _ => True) := by
  refine fn_intro Try.func26 Try.ntmps26 rfl rfl rfl (fun w0 => ?_)
  try simp only [List.cons_append, List.nil_append, List.append_nil]
  refine rr ?_
  refine ca [] (indexIC a c l hl) ?_
  intro x hx
  try simp only [List.cons_append, List.nil_append, List.append_nil]
  refine rr ?_
  refine we () [] trivial (hv := ?_)
  rw [← hx]
  rfl
end Go.Proofs.Ytgmegfmabkkaoaa

/- Lists of objects; is one of them wrong? -/
import Derived.Test.YtmaepdebbijkiaaOb4
namespace Go.Proofs.Ytmaepdebbijkiaa
open Go Go.Sx Go.Sx.Chunk
set_option linter.unusedVariables false
set_option linter.unusedSimpArgs false

def obC (l : List Ob) : List Value := l.flatMap obV
theorem obC_len (l : List Ob) : (obC l).length = l.length * 6 := flat_len (cells := obV) (sz := 6) (fun _ => rfl) l
theorem obC_all {l : List Ob} {k : Nat} {o : Ob} (h : l[k]? = some o) (n : Nat) (hn : n = k * 6) : ((obC l).drop n).take 6 = obV o := by subst hn; exact flat_get (cells := obV) (sz := 6) (fun _ => rfl) h
/-- All that objects lead to. -/
def seeO (l : List Ob) : Chunk := seeL (l.flatMap obS)
theorem obS_mem {l : List Ob} {o : Ob} {c : Chunk} (ho : o ∈ l) (hc : c ∈ obS o) : c ∈ l.flatMap obS := List.mem_flatMap.2 ⟨o, ho, hc⟩
theorem seeO_prov {l : List Ob} {o : Ob} {c : Chunk} (ho : o ∈ l) (hc : c ∈ obS o) : Prov [seeO l] c := see_mem (obS_mem ho hc)
theorem lend_ob {R : List Chunk} {k : Nat} {l : List Ob} {o : Ob} (hp : nthC R k = some (seeO l)) (ho : o ∈ l) : LendsAll R (obS o) := by
  have h := fun c (hc : c ∈ obS o) => (seeO_prov ho hc).one (prov_mem (nthC_mem hp))
  exact ⟨⟨rfl, (h _ (by simp [obS])).1, (h _ (by simp [obS])).2⟩, ⟨rfl, (h _ (by simp [obS])).1, (h _ (by simp [obS])).2⟩, ⟨rfl, (h _ (by simp [obS])).1, (h _ (by simp [obS])).2⟩, ⟨rfl, (h _ (by simp [obS])).1, (h _ (by simp [obS])).2⟩, trivial⟩

theorem wrongOC (o : Ob) (hok : OkOb o) : FnC (α := Unit) Try.prog 17 [obG o] [] (obS o) (fun _ => .bool (!goodO o)) (fun _ => []) (fun _ => True) := by
  unfold obG obS
  refine fn_intro Try.func17 Try.ntmps17 rfl rfl rfl (fun w0 => ?_)
  try simp only [List.cons_append, List.nil_append, List.append_nil]
  refine rr ?_
  intro b _
  refine rr ?_
  refine ca [] (rightOC o hok) ?_
  intro x hx
  try simp only [List.cons_append, List.nil_append, List.append_nil]
  refine rr ?_
  exact we () [] trivial
set_option maxHeartbeats 4000000 in
theorem indexOC (a : Option Addr) (c : Nat) (l : List Ob) (hl : l.length ≤ 100000) (hok : ∀ o ∈ l, OkOb o) :
    FnC Try.prog 34 [.slice a l.length c, .func (.func 17) #[] #[]] [] [rng a (obC l), seeO l] (fun v : Int => .int .i64 v) (fun _ => []) (fun v => decide (0 ≤ v) = l.any (fun o => !goodO o)) := by
  refine fn_intro Try.func34 Try.ntmps34 rfl rfl rfl (fun w0 => ?_)
  try simp only [List.cons_append, List.nil_append, List.append_nil]
  refine rr ?_
  refine w_loop (α := Nat) (fun k => [(0, .slice a l.length c), (1, .func (.func 17) #[] #[]), (7, .int .i64 (l.length : Int)), (8, .int .i64 (k : Int))]) (fun k => [rng a (obC l), seeO l]) (fun k => k ≤ l.length ∧ (l.take k).any (fun o => !goodO o) = false) (fun k => l.length - k) 0 ⟨rfl, rfl, rfl, rfl, trivial⟩ rfl ⟨Nat.zero_le _, by simp⟩ ?_
  rintro k ⟨hk, hany⟩ K1 hK1
  by_cases hlt : k < l.length
  · obtain ⟨e, he⟩ := some_at hlt
    have hmem := List.mem_of_getElem? he
    have hall : ((obC l).drop ((k : Int).toNat * 6)).take 6 = [.string e.name, .slice e.ca e.code.length e.cc, .int .i64 e.data, .slice e.ea e.exps.length e.ec, .slice e.ia e.imps.length e.ic, .slice e.pa e.pats.length e.pc] := obC_all he _ (by omega)
    have hlen := obC_len l
    refine w_use (fun w hw => (hw.pick 0 rfl).rng_some (by first | omega | decide | (simp; done) | (simp <;> omega))) ?_
    rintro ⟨g1, rfl⟩
    refine rr ?_
    refine cav [] (wrongOC e (hok e hmem)) (hl := lend_ob (k := 1) rfl hmem) ?_
    intro x hx
    try simp only [List.cons_append, List.nil_append, List.append_nil]
    cases hg : goodO e with
    | true =>
      refine rr ?_
      exact w_round hK1 (k + 1) ⟨by omega, any_step he (by rw [hg]; rfl) hany⟩ (by show l.length - (k + 1) < l.length - k; omega) rfl ⟨rfl, rfl, rfl, rfl, trivial⟩
    | false =>
      refine rr ?_
      refine we (k : Int) [] (hx := ?_)
      rw [any_hit he (by rw [hg]; rfl)]
      simp
  · obtain rfl : k = l.length := by omega
    rw [List.take_length] at hany
    refine rr ?_
    refine we (-1) [] (hx := ?_)
    rw [hany]
    rfl
theorem containsOC (a : Option Addr) (c : Nat) (l : List Ob) (hl : l.length ≤ 100000) (hok : ∀ o ∈ l, OkOb o) :
    FnC (α := Unit) Try.prog 16 [.slice a l.length c, .func (.func 17) #[] #[]] [] [rng a (obC l), seeO l] (fun _ => .bool (l.any (fun o => !goodO o))) (fun _ => []) (fun _ => True) := by
  refine fn_intro Try.func16 Try.ntmps16 rfl rfl rfl (fun w0 => ?_)
  try simp only [List.cons_append, List.nil_append, List.append_nil]
  refine rr ?_
  refine ca [] (indexOC a c l hl hok) ?_
  intro x hx
  try simp only [List.cons_append, List.nil_append, List.append_nil]
  refine rr ?_
  refine we () [] trivial (hv := ?_)
  rw [← hx]
  rfl
end Go.Proofs.Ytmaepdebbijkiaa

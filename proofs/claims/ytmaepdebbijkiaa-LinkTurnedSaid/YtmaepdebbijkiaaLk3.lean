/- The joiner's join. -/
import Derived.Test.YtmaepdebbijkiaaLk2
namespace Go.Proofs.Ytmaepdebbijkiaa
open Go Go.Sx Go.Sx.Chunk
set_option linter.unusedVariables false
set_option linter.unusedSimpArgs false

def codeF (l : List Ob) : List In := l.flatMap Ob.code
def dataF (l : List Ob) : Int := (l.map Ob.data).sum
theorem codeF_len (l : List Ob) : (codeF l).length = (l.map fun o => o.code.length).sum := by simp [codeF, List.length_flatMap]
theorem codeF_take (l : List Ob) (k : Nat) : (codeF (l.take k)).length = atF l k := codeF_len _
theorem codeF_step {l : List Ob} {k : Nat} {o : Ob} (h : l[k]? = some o) : codeF (l.take (k + 1)) = codeF (l.take k) ++ o.code := by rw [take_snoc h]; simp [codeF]
theorem dataF_step {l : List Ob} {k : Nat} {o : Ob} (h : l[k]? = some o) : dataF (l.take (k + 1)) = dataF (l.take k) + o.data := by rw [take_snoc h]; simp [dataF]
theorem dataF_le {l : List Ob} (h : ∀ o ∈ l, 0 ≤ o.data ∧ o.data ≤ 32000) : 0 ≤ dataF l ∧ dataF l ≤ 32000 * (l.length : Int) := by
  induction l with
  | nil => simp [dataF]
  | cons o l ih =>
    have h1 := h o (by simp)
    have h2 := ih (fun x hx => h x (by simp [hx]))
    simp only [dataF, List.map_cons, List.sum_cons, List.length_cons] at h2 ⊢
    omega
abbrev Ba := Nat × Int
def baV (b : Ba) : List Value := [.int .i64 (b.1 : Int), .int .i64 b.2]
def baC (l : List Ba) : List Value := l.flatMap baV
theorem baC_len (l : List Ba) : (baC l).length = l.length * 2 := flat_len (cells := baV) (sz := 2) (fun _ => rfl) l
/-- Where the objects stand. -/
def baseK (l : List Ob) (k : Nat) : List Ba := (List.range k).map fun i => (atF l i, dataF (l.take i))
theorem baseK_step (l : List Ob) (k : Nat) : baseK l (k + 1) = baseK l k ++ [(atF l k, dataF (l.take k))] := by simp [baseK, List.range_succ]
theorem insC_app (a b : List In) : insC (a ++ b) = insC a ++ insC b := by simp [insC]
theorem baC_app (a : List Ba) (b : Ba) : baC (a ++ [b]) = baC a ++ baV b := by simp [baC]
theorem insC_one (l : List In) : ∀ u ∈ insC l, u.oneCell' = true := by
  intro u hu
  obtain ⟨i, _, hi⟩ := List.mem_flatMap.1 hu
  simp only [inV, List.mem_cons, List.not_mem_nil, or_false] at hi
  rcases hi with rfl | rfl | rfl | rfl | rfl <;> rfl
def joH (j : Nat) (x : Option Addr × Nat × Option Addr × Nat) (l : List Ob) (k : Nat) (g : Nat) (mem : Int) : List Chunk :=
  [joC j x.1 (atF l k) x.2.1 (dataF (l.take k)) x.2.2.1 k x.2.2.2 g mem, row x.1 x.2.1 47 5 (atF l k) (insC (codeF (l.take k))), row x.2.2.1 x.2.2.2 71 2 k (baC (baseK l k))]
set_option maxHeartbeats 8000000 in
theorem joinC (j g : Nat) (mem : Int) (a : Option Addr) (c : Nat) (l : List Ob) (hl : l.length ≤ 1000) (hgo : ∀ o ∈ l, o.code.length ≤ 4096) (hda : ∀ o ∈ l, 0 ≤ o.data ∧ o.data ≤ 32000) :
    FnC Try.prog 19 [.pointer (some ⟨j, 0, none⟩), .slice a l.length c] [joC j none 0 0 0 none 0 0 g mem] [rng a (obC l), seeO l] (fun x : Option Addr × Nat × Option Addr × Nat => .tuple #[]) (fun x => joH j x l l.length g mem) (fun _ => True) := by
  refine fn_intro Try.func19 Try.ntmps19 rfl rfl rfl (fun w0 => ?_)
  try simp only [List.cons_append, List.nil_append, List.append_nil]
  refine w_turn (fun w hw => ((hw.row_nil 71 2).row_nil 47 5).sub [2, 0, 0, 0, 0] (A := joH j (none, 0, none, 0) l 0 g mem ++ [rng a (obC l), seeO l]) rfl) ?_
  refine rr ?_
  refine w_loop (α := Nat × Option Addr × Nat × Option Addr × Nat) (fun x => [(0, .pointer (some ⟨j, 0, none⟩)), (6, .slice a l.length c), (7, .int .i64 (l.length : Int)), (8, .int .i64 (x.1 : Int))])
    (fun x => joH j x.2 l x.1 g mem ++ [rng a (obC l), seeO l]) (fun x => x.1 ≤ l.length) (fun x => l.length - x.1) (0, none, 0, none, 0) ⟨rfl, rfl, rfl, rfl, trivial⟩ rfl (Nat.zero_le _) ?_
  rintro ⟨k, ra, rc, pa, pc⟩ hk K1 hK1
  dsimp only at hk ⊢
  by_cases hlt : k < l.length
  · obtain ⟨o, he⟩ := some_at hlt
    have hmem := List.mem_of_getElem? he
    have hall : ((obC l).drop ((k : Int).toNat * 6)).take 6 = [.string o.name, .slice o.ca o.code.length o.cc, .int .i64 o.data, .slice o.ea o.exps.length o.ec, .slice o.ia o.imps.length o.ic, .slice o.pa o.pats.length o.pc] := obC_all he _ (by omega)
    have hlen := obC_len l
    have hgo1 := hgo o hmem
    have hda1 := hda o hmem
    have hat := atF_le hgo k
    have hat1 := atF_step he
    have hdt : 0 ≤ dataF (l.take k) ∧ dataF (l.take k) ≤ 32000 * ((l.take k).length : Int) := dataF_le (fun x hx => hda x (List.mem_of_mem_take hx))
    have hdl : (l.take k).length ≤ 1000 := by simp; omega
    have hdata1 := dataF_step he
    have hil := insC_len o.code
    have hio := insC_one o.code
    unfold joH joC
    simp only [List.cons_append, List.nil_append]
    refine w_use (fun w hw => (hw.pick 3 rfl).rng_some (by first | omega | decide | (simp; done) | (simp <;> omega))) ?_
    rintro ⟨g1, rfl⟩
    refine rr ?_
    intro b5 _
    refine rr ?_
    refine dr [0, 1, 2, 3, 4, 5, 6, 7, 8, 9, 10, 11, 12, 13, 14, 15, 16, 17, 18, 19, 20, 21] [4, 9, 15] [1, 1, 1] ?_
    refine rr ?_
    intro b6 _
    refine rr ?_
    rintro ⟨a1, c1⟩ ⟨hc1, _⟩
    refine rr ?_
    have hb : baC (baseK l k) ++ [Value.int IntKind.i64 (atF l k : Int), Value.int IntKind.i64 (dataF (l.take k))] = baC (baseK l (k + 1)) := by rw [baseK_step, baC_app]; rfl
    rw [hb]
    refine w_turn (fun w hw => look_ob hw (c := rng o.ca (insC o.code)) (k := 5) rfl hmem (by simp [obS]) rfl) ?_
    refine dr [0, 1, 2, 3, 4, 5, 6, 7, 8, 9, 10, 11, 12] [5, 7] [1, 3] ?_
    refine rr ?_
    rintro ⟨a2, c2⟩ hc2
    refine rr ?_
    refine dr [0, 1, 2, 3, 4, 5, 6, 7, 8, 9, 10, 11] [4, 6] [0, 4] ?_
    refine rr ?_
    rw [← insC_app, ← codeF_step he, ← hat1, ← hdata1]
    refine w_sub [0, 0, 1, 2, 2] rfl ?_
    exact w_round hK1 (k + 1, a2, c2, a1, c1) (by show k + 1 ≤ l.length; omega) (by show l.length - (k + 1) < l.length - k; omega) rfl ⟨rfl, rfl, rfl, rfl, trivial⟩
  · obtain rfl : k = l.length := by omega
    refine rr ?_
    exact we (ra, rc, pa, pc) [0, 0, 0] trivial
end Go.Proofs.Ytmaepdebbijkiaa

/- The reference's bases and places. -/
import Derived.Test.YtmaepdebbijkiaaLk6
namespace Go.Proofs.Ytmaepdebbijkiaa
open Go Go.Sx Go.Sx.Chunk
set_option linter.unusedVariables false
set_option linter.unusedSimpArgs false

theorem obC_at {l : List Ob} {k : Nat} {e : Ob} (h : l[k]? = some e) (j : Nat) (hj : j < 6) (n : Nat) (hn : n = k * 6 + j) : (obC l)[n]? = (obV e)[j]? := by subst hn; exact flat_at (cells := obV) (sz := 6) (fun _ => rfl) h hj
/-- What a place among objects' codes may be. -/
structure GoB (l : List Ob) : Prop where
  len : l.length ≤ 1000
  ok : ∀ o ∈ l, OkOb o
  code : ∀ o ∈ l, o.code.length ≤ 4096
  data : ∀ o ∈ l, 0 ≤ o.data ∧ o.data ≤ 32000
  exps : ∀ o ∈ l, ∀ x ∈ o.exps, 0 ≤ x.pl ∧ x.pl ≤ 4096
  expn : ∀ o ∈ l, o.exps.length ≤ 255
theorem basesC (a : Option Addr) (c : Nat) (l : List Ob) (n : Nat) (hn : n ≤ l.length) (hg : GoB l) :
    FnC (α := Unit) Try.prog 23 [.slice a l.length c, .int .i64 (n : Int)] [] [rng a (obC l)] (fun _ => .tuple #[.int .i64 (atF l n : Int), .int .i64 (dataF (l.take n))]) (fun _ => []) (fun _ => True) := by
  have hl := hg.len
  refine fn_intro Try.func23 Try.ntmps23 rfl rfl rfl (fun w0 => ?_)
  try simp only [List.cons_append, List.nil_append, List.append_nil]
  refine rr ?_
  refine lo [0, 1] (fun k : Nat => [(6, .int .i64 (atF l k : Int)), (7, .int .i64 (dataF (l.take k))), (8, .int .i64 (k : Int))]) (fun k => []) (fun k => k ≤ n) (fun k => n - k) 0 (by omega) ?_
  intro k hk K1 hK1
  by_cases hlt : k < n
  · obtain ⟨o, he⟩ := some_at (l := l) (k := k) (by omega)
    have hmem := List.mem_of_getElem? he
    have h1 := atF_le hg.code k
    have h2 := hg.code o hmem
    have h3 := dataF_le (l := l.take k) (fun o ho => hg.data o (List.mem_of_mem_take ho))
    have h4 := hg.data o hmem
    have h5 : ((l.take k).length : Int) ≤ 1000 := by simp; omega
    have he1 : (obC l)[(k : Int).toNat * 6 + 1]? = some (.slice o.ca o.code.length o.cc) := obC_at he 1 (by decide) _ (by omega)
    have he2 : (obC l)[(k : Int).toNat * 6 + 2]? = some (.int .i64 o.data) := obC_at he 2 (by decide) _ (by omega)
    have hlen := obC_len l
    refine rr ?_
    have e1 := atF_step he
    have e2 := dataF_step he
    refine ro hK1 (k + 1) (by omega) (hE := ?_)
    refine ⟨?_, ?_, rfl, rfl, rfl, trivial⟩
    · rw [e1]; rfl
    · rw [e2]; rfl
  · obtain rfl : k = n := by omega
    refine rr ?_
    exact en () trivial
/-- Where a name is told last, and how often. -/
def plF (v : ByteArray) : List Sym → Int × Int → Int × Int
  | [], r => r
  | s :: l, r => plF v l (if s.1 = v then (s.2, r.2 + 1) else r)
def symsO (at_ : Int) (o : Ob) : List Sym := o.exps.map fun x => (x.name, at_ + x.pl)
def symsF : Int → List Ob → List Sym
  | _, [] => []
  | at_, o :: l => symsO at_ o ++ symsF (at_ + o.code.length) l
theorem plF_app (v : ByteArray) : ∀ (a b : List Sym) (r : Int × Int), plF v (a ++ b) r = plF v b (plF v a r)
  | [], b, r => rfl
  | s :: a, b, r => by simp only [List.cons_append, plF]; exact plF_app v a b _
theorem symsF_take : ∀ (l : List Ob) (k : Nat) (o : Ob) (m : Int), l[k]? = some o → symsF m (l.take (k + 1)) = symsF m (l.take k) ++ symsO (m + atF l k) o
  | [], k, o, m, h => by simp at h
  | x :: l, 0, o, m, h => by
    simp only [List.getElem?_cons_zero, Option.some.injEq] at h
    subst h
    simp [symsF, atF]
  | x :: l, k + 1, o, m, h => by
    have ih := symsF_take l k o (m + x.code.length) (by simpa using h)
    simp only [List.take_succ_cons, symsF, ih, List.append_assoc]
    rw [show m + (x.code.length : Int) + (atF l k : Int) = m + (atF (x :: l) (k + 1) : Int) by simp [atF]; omega]
theorem plF_bound (v : ByteArray) : ∀ (a : List Sym) (r : Int × Int) (N : Int), 0 ≤ r.2 → r.2 ≤ N → 0 ≤ (plF v a r).2 ∧ (plF v a r).2 ≤ N + a.length
  | [], r, N, h0, h => by simp [plF]; omega
  | s :: a, r, N, h0, h => by
    simp only [plF, List.length_cons]
    have := plF_bound v a (if s.1 = v then (s.2, r.2 + 1) else r) (N + 1) (by split <;> first | omega | (dsimp only; omega)) (by split <;> first | omega | (dsimp only; omega))
    simp only [Int.natCast_add, Int.natCast_one] at this ⊢
    omega
theorem symsF_len {l : List Ob} (h : ∀ o ∈ l, o.exps.length ≤ 255) : ∀ m, (symsF m l).length ≤ 255 * l.length := by
  induction l with
  | nil => intro m; simp [symsF]
  | cons o l ih =>
    intro m
    have := ih (fun o ho => h o (by simp [ho])) (m + o.code.length)
    have := h o (by simp)
    simp only [symsF, List.length_append, symsO, List.length_map, List.length_cons]
    omega
theorem look_ex {w0 w : World} {M : Nat → Prop} {H : List Chunk} (hw : St w0 M w H) {k : Nat} {l : List Ob} {o : Ob} (hp : nthC H k = some (seeO l)) (ho : o ∈ l) : St w0 M w (rng o.ea (syC o.exps) :: H) :=
  look_ob hw hp ho (by simp [obS]) rfl
set_option maxHeartbeats 1000000 in
theorem placeC (a : Option Addr) (c : Nat) (l : List Ob) (v : ByteArray) (hg : GoB l) :
    FnC (α := Unit) Try.prog 24 [.slice a l.length c, .string v] [] [rng a (obC l), seeO l] (fun _ => .tuple #[.int .i64 (plF v (symsF 0 l) (0, 0)).1, .int .i64 (plF v (symsF 0 l) (0, 0)).2]) (fun _ => []) (fun _ => True) := by
  have hl := hg.len
  refine fn_intro Try.func24 Try.ntmps24 rfl rfl rfl (fun w0 => ?_)
  try simp only [List.cons_append, List.nil_append, List.append_nil]
  refine rr ?_
  refine lo [0, 1] (fun k : Nat => [(6, .int .i64 (plF v (symsF 0 (l.take k)) (0, 0)).1), (7, .int .i64 (plF v (symsF 0 (l.take k)) (0, 0)).2), (8, .int .i64 (k : Int))]) (fun k => []) (fun k => k ≤ l.length) (fun k => l.length - k) 0 (by omega) ?_
  intro k hk K1 hK1
  by_cases hlt : k < l.length
  · obtain ⟨o, he⟩ := some_at (l := l) (k := k) (by omega)
    have hmem := List.mem_of_getElem? he
    have h1 := atF_le hg.code k
    have h2 := hg.exps o hmem
    have h3 := (hg.ok o hmem).exps
    have h6 := hg.expn o hmem
    have h5 := plF_bound v (symsF 0 (l.take k)) (0, 0) 0 (by decide) (by decide)
    have h4 := symsF_len (l := l.take k) (fun o ho => hg.expn o (List.mem_of_mem_take ho)) 0
    have h7 : (l.take k).length ≤ 1000 := by simp; omega
    have he3 : (obC l)[(k : Int).toNat * 6 + 3]? = some (.slice o.ea o.exps.length o.ec) := obC_at he 3 (by decide) _ (by omega)
    have hlen := obC_len l
    refine rr ?_
    refine cl (basesC a c l k (by omega) hg) ?_
    intro x hx
    try simp only [List.cons_append, List.nil_append, List.append_nil]
    refine rr ?_
    refine w_turn (fun w hw => look_ex hw (k := 1) rfl hmem) ?_
    refine lo [0, 1, 8, 9, 29, 30] (fun i : Nat => [(6, .int .i64 (plF v (symsF 0 (l.take k) ++ (symsO (atF l k) o).take i) (0, 0)).1), (7, .int .i64 (plF v (symsF 0 (l.take k) ++ (symsO (atF l k) o).take i) (0, 0)).2), (31, .int .i64 (i : Int))]) (fun i => []) (fun i => i ≤ o.exps.length) (fun i => o.exps.length - i) 0 (by omega) ?_ (hE := by simp only [List.take_zero, List.append_nil]; exact ⟨rfl, rfl, rfl, rfl, rfl, rfl, rfl, rfl, rfl, trivial⟩)
    intro i hi K2 hK2
    by_cases hil : i < o.exps.length
    · obtain ⟨x, hx⟩ := some_at hil
      have hpl := h2 x (List.mem_of_getElem? hx)
      have hxA : ((syC o.exps).drop ((i : Int).toNat * 2)).take 2 = [.string x.name, .int .i64 x.pl] := syC_all hx _ (by omega)
      have hxL := syC_len o.exps
      have hs : (symsO (atF l k) o).take (i + 1) = (symsO (atF l k) o).take i ++ [(x.name, atF l k + x.pl)] := by
        rw [take_snoc]
        simp [symsO, hx]
      have h8 := plF_bound v (symsF 0 (l.take k) ++ (symsO (atF l k) o).take i) (0, 0) 0 (by decide) (by decide)
      have h9 : (symsF 0 (l.take k) ++ (symsO (atF l k) o).take i).length ≤ 255 * 1000 + 255 := by
        simp [symsO]
        omega
      have hpf : plF v (symsF 0 (l.take k) ++ (symsO (atF l k) o).take (i + 1)) (0, 0) = (if x.name = v then (atF l k + x.pl, (plF v (symsF 0 (l.take k) ++ (symsO (atF l k) o).take i) (0, 0)).2 + 1) else plF v (symsF 0 (l.take k) ++ (symsO (atF l k) o).take i) (0, 0)) := by
        rw [hs, ← List.append_assoc, plF_app]
        rfl
      refine rr ?_
      intro b12 _
      refine rr ?_
      by_cases hn : x.name = v
      · refine rr ?_
        rw [if_pos hn] at hpf
        refine ro hK2 (i + 1) (by omega) (hE := ?_)
        rw [hpf]
        exact ⟨rfl, rfl, rfl, rfl, rfl, rfl, rfl, rfl, rfl, trivial⟩
      · refine rr ?_
        rw [if_neg hn] at hpf
        refine ro hK2 (i + 1) (by omega) (hE := ?_)
        rw [hpf]
        exact ⟨rfl, rfl, rfl, rfl, rfl, rfl, rfl, rfl, rfl, trivial⟩
    · obtain rfl : i = o.exps.length := by omega
      refine rr ?_
      refine ro hK1 (k + 1) (by omega) (hE := ?_)
      rw [symsF_take l k o 0 he, Int.zero_add]
      have hso : (symsO (atF l k) o).take o.exps.length = symsO (atF l k) o := List.take_of_length_le (by simp [symsO])
      rw [hso]
      exact ⟨rfl, rfl, rfl, rfl, rfl, trivial⟩
  · obtain rfl : k = l.length := by omega
    rw [List.take_length]
    refine rr ?_
    exact en () trivial
end Go.Proofs.Ytmaepdebbijkiaa

/- The joiner's names. -/
import Derived.Test.YtmaepdebbijkiaaLk1
namespace Go.Proofs.Ytmaepdebbijkiaa
open Go Go.Sx Go.Sx.Chunk
set_option linter.unusedVariables false
set_option linter.unusedSimpArgs false

theorem look_ob {w0 w : World} {M : Nat → Prop} {H : List Chunk} (hw : St w0 M w H) {k : Nat} {l : List Ob} {o : Ob} {c : Chunk} (hp : nthC H k = some (seeO l)) (ho : o ∈ l) (hc : c ∈ obS o) (hwr : c.wr = false) : St w0 M w (c :: H) :=
  hw.look hwr ((seeO_prov ho hc).one (prov_mem (List.mem_filter.2 ⟨nthC_mem hp, rfl⟩)))
abbrev Sym := ByteArray × Int
def mMap (l : List Sym) : List (ByteArray × Value) := l.map fun s => (s.1, .int .i64 s.2)
def symF (v : ByteArray) : List Sym → Option Int
  | [] => none
  | a :: l => if a.1 = v then some a.2 else symF v l
theorem atK_mMap (v : ByteArray) : ∀ l, atK (mMap l) v = (symF v l).map (Value.int .i64)
  | [] => rfl
  | a :: l => by
    have ih := atK_mMap v l
    simp only [mMap, List.map_cons, atK, symF] at ih ⊢
    by_cases h : a.1 = v
    · subst h; simp
    · have h' : ¬ v = a.1 := fun e => h e.symm
      rw [if_neg h]
      first | (rw [if_neg h]; exact ih) | (rw [if_neg h']; exact ih)
theorem putK_mMap (v : ByteArray) (n : Int) : ∀ l, symF v l = none → putK (mMap l) v (.int .i64 n) = mMap (l ++ [(v, n)])
  | [], _ => rfl
  | a :: l, h => by
    simp only [symF] at h
    by_cases ha : a.1 = v
    · rw [if_pos ha] at h; cases h
    · rw [if_neg ha] at h
      have ih := putK_mMap v n l h
      have h' : ¬ v = a.1 := fun e => ha e.symm
      simp only [mMap, List.map_cons, List.cons_append, putK] at ih ⊢
      first | rw [if_neg ha, ih] | rw [if_neg h', ih]
def expsF (at_ : Int) : List Sym → List Sy → Option (List Sym)
  | s, [] => some s
  | s, x :: l => match symF x.name s with
    | some _ => none
    | none => expsF at_ (s ++ [(x.name, at_ + x.pl)]) l
def namesF : List ByteArray → List Sym → Int → List Ob → Option (List Sym)
  | _, s, _, [] => some s
  | seen, s, at_, o :: l => if inL o.name seen then none else match expsF at_ s o.exps with
    | none => none
    | some s' => namesF (seen ++ [o.name]) s' (at_ + o.code.length) l
def atF (l : List Ob) (k : Nat) : Nat := ((l.take k).map fun o => o.code.length).sum
theorem atF_step {l : List Ob} {k : Nat} {o : Ob} (h : l[k]? = some o) : atF l (k + 1) = atF l k + o.code.length := by
  unfold atF
  rw [take_snoc h]; simp
theorem atF_le {l : List Ob} (h : ∀ o ∈ l, o.code.length ≤ 4096) : ∀ k, atF l k ≤ 4096 * k := by
  intro k
  induction k with
  | zero => simp [atF]
  | succ k ih =>
    cases hk : l[k]? with
    | none =>
      have : l.length ≤ k := by simpa using hk
      unfold atF at ih ⊢
      rw [List.take_of_length_le (by omega)] at ih ⊢
      exact Nat.le_trans ih (Nat.mul_le_mul_left _ (Nat.le_succ k))
    | some o =>
      rw [atF_step hk]
      have := h o (List.mem_of_getElem? hk)
      rw [Nat.mul_succ]
      exact Nat.add_le_add ih this
theorem namesF_step {seen : List ByteArray} {s : List Sym} {at_ : Int} {l : List Ob} {k : Nat} {o : Ob} (h : l[k]? = some o) : namesF seen s at_ (l.drop k) = if inL o.name seen then none else match expsF at_ s o.exps with
    | none => none
    | some s' => namesF (seen ++ [o.name]) s' (at_ + o.code.length) (l.drop (k + 1)) := by
  obtain ⟨hi, hb⟩ := List.getElem?_eq_some_iff.1 h
  rw [List.drop_eq_getElem_cons hi, hb]
  rfl
theorem expsF_step {s : List Sym} {at_ : Int} {l : List Sy} {k : Nat} {x : Sy} (h : l[k]? = some x) : expsF at_ s (l.drop k) = match symF x.name s with
    | some _ => none
    | none => expsF at_ (s ++ [(x.name, at_ + x.pl)]) (l.drop (k + 1)) := by
  obtain ⟨hi, hb⟩ := List.getElem?_eq_some_iff.1 h
  rw [List.drop_eq_getElem_cons hi, hb]
  rfl
/-- A joiner. -/
def joC (j : Nat) (ca : Option Addr) (cn cc : Nat) (data : Int) (ba : Option Addr) (bn bc g : Nat) (mem : Int) : Chunk := blk j [.slice ca cn cc, .int .i64 data, .slice ba bn bc, .map (some g), .int .i64 mem] 66
def syM (g : Nat) (s : List Sym) : Chunk := mapC Value.string g (mMap s)
set_option maxHeartbeats 8000000 in
theorem namesC (j g : Nat) (mem : Int) (a : Option Addr) (c : Nat) (l : List Ob) (hl : l.length ≤ 1000) (hok : ∀ o ∈ l, OkOb o) (hgo : ∀ o ∈ l, o.code.length ≤ 4096 ∧ ∀ x ∈ o.exps, 0 ≤ x.pl ∧ x.pl ≤ 4096) :
    FnC Try.prog 18 [.pointer (some ⟨j, 0, none⟩), .slice a l.length c] [joC j none 0 0 0 none 0 0 g mem, syM g []] [rng a (obC l), seeO l] (fun s : List Sym => .bool (namesF [] [] 0 l).isSome) (fun s => [joC j none 0 0 0 none 0 0 g mem, syM g s]) (fun s => ∀ s0, namesF [] [] 0 l = some s0 → s = s0) := by
  refine fn_intro Try.func18 Try.ntmps18 rfl rfl rfl (fun w0 => ?_)
  try simp only [List.cons_append, List.nil_append, List.append_nil]
  unfold joC syM
  refine rr ?_
  intro b _
  refine rr ?_
  refine w_turn (fun w hw => ((hw.row_nil 9 1).gen0).sub [2, 1, 0, 0, 0, 0, 0] (A := setH b none none 0 [] ++ [blk j [.slice none 0 0, .int .i64 0, .slice none 0 0, .map (some g), .int .i64 mem] 66, mapC Value.string g (mMap []), rng a (obC l), seeO l]) rfl) ?_
  refine w_loop (α := Nat × List Sym × Option Nat × Option Addr × Nat) (fun x => [(0, .pointer (some ⟨j, 0, none⟩)), (5, .pointer (some ⟨b, 0, none⟩)), (6, .int .i64 (atF l x.1 : Int)), (13, .slice a l.length c), (14, .int .i64 (l.length : Int)), (15, .int .i64 (x.1 : Int))])
    (fun x => setH b x.2.2.1 x.2.2.2.1 x.2.2.2.2 ((l.take x.1).map Ob.name) ++ [blk j [.slice none 0 0, .int .i64 0, .slice none 0 0, .map (some g), .int .i64 mem] 66, mapC Value.string g (mMap x.2.1), rng a (obC l), seeO l])
    (fun x => x.1 ≤ l.length ∧ setOk x.2.2.1 ((l.take x.1).map Ob.name) ∧ namesF [] [] 0 l = namesF ((l.take x.1).map Ob.name) x.2.1 (atF l x.1 : Int) (l.drop x.1)) (fun x => l.length - x.1) (0, [], none, none, 0) ⟨rfl, rfl, rfl, rfl, rfl, rfl, trivial⟩ rfl ⟨Nat.zero_le _, fun _ => rfl, rfl⟩ ?_
  rintro ⟨k, syms, m, oa, oc⟩ ⟨hk, hm, hspec⟩ K1 hK1
  dsimp only at hk hm hspec ⊢
  by_cases hlt : k < l.length
  · obtain ⟨o, he⟩ := some_at hlt
    have hmem := List.mem_of_getElem? he
    have hall : ((obC l).drop ((k : Int).toNat * 6)).take 6 = [.string o.name, .slice o.ca o.code.length o.cc, .int .i64 o.data, .slice o.ea o.exps.length o.ec, .slice o.ia o.imps.length o.ic, .slice o.pa o.pats.length o.pc] := obC_all he _ (by omega)
    have hlen := obC_len l
    rw [namesF_step he] at hspec
    refine w_use (fun w hw => (hw.pick 5 rfl).rng_some (by first | omega | decide | (simp; done) | (simp <;> omega))) ?_
    rintro ⟨g1, rfl⟩
    refine rr ?_
    intro b8 _
    refine rr ?_
    refine ca [1, 1, 1] (setAddC b m oa oc ((l.take k).map Ob.name) o.name hm (by simp; omega)) (ho := fun _ => setW) ?_
    intro x hx
    cases hin : inL o.name ((l.take k).map Ob.name) with
    | true =>
      rw [hin] at hspec
      rw [if_pos rfl] at hspec
      simp only [if_true]
      rw [hspec]
      refine rr ?_
      exact we syms [4, 4] (fun s0 h => by cases h)
    | false =>
      rw [hin] at hspec hx
      simp only [if_false, Bool.false_eq_true] at hx hspec ⊢
      have hnm : (l.take k).map Ob.name ++ [o.name] = (l.take (k + 1)).map Ob.name := by rw [take_snoc he]; simp
      rw [hnm] at hx hspec ⊢
      have hgo1 := hgo o hmem
      have hat := atF_le (fun o ho => (hgo o ho).1) k
      refine rr ?_
      refine w_loop (α := Nat × List Sym) (fun y => [(0, .pointer (some ⟨j, 0, none⟩)), (5, .pointer (some ⟨b, 0, none⟩)), (6, .int .i64 (atF l k : Int)), (8, .pointer (some ⟨b8, 0, none⟩)), (13, .slice (some g1) l.length c), (14, .int .i64 (l.length : Int)), (15, .int .i64 (k : Int)), (24, .slice o.ea o.exps.length o.ec), (25, .int .i64 (o.exps.length : Int)), (26, .int .i64 (y.1 : Int))])
        (fun y => setH b x.1 x.2.1 x.2.2 ((l.take (k + 1)).map Ob.name) ++ [blk b8 [.string o.name, .slice o.ca o.code.length o.cc, .int .i64 o.data, .slice o.ea o.exps.length o.ec, .slice o.ia o.imps.length o.ic, .slice o.pa o.pats.length o.pc] 41, blk j [.slice none 0 0, .int .i64 0, .slice none 0 0, .map (some g), .int .i64 mem] 66, mapC Value.string g (mMap y.2), rng (some g1) (obC l), seeO l])
        (fun y => y.1 ≤ o.exps.length ∧ expsF (atF l k : Int) syms o.exps = expsF (atF l k : Int) y.2 (o.exps.drop y.1)) (fun y => o.exps.length - y.1) (0, syms) ⟨rfl, rfl, rfl, rfl, rfl, rfl, rfl, rfl, rfl, rfl, trivial⟩ rfl ⟨Nat.zero_le _, rfl⟩ ?_
      rintro ⟨i, sy⟩ ⟨hi, hexp⟩ K2 hK2
      dsimp only at hi hexp ⊢
      by_cases hil : i < o.exps.length
      · obtain ⟨e, hee⟩ := some_at hil
        have hpl := hgo1.2 e (List.mem_of_getElem? hee)
        have hall2 : ((syC o.exps).drop ((i : Int).toNat * 2)).take 2 = [.string e.name, .int .i64 e.pl] := syC_all hee _ (by omega)
        have hsl := syC_len o.exps
        have hoe := hok o hmem
        have hel := hoe.exps
        rw [expsF_step hee] at hexp
        refine w_turn (fun w hw => look_ob hw (c := rng o.ea (syC o.exps)) (k := 7) rfl hmem (by simp [obS]) rfl) ?_
        generalize hea : o.ea = ea
        refine w_use (fun w hw => (hw.pick 0 rfl).rng_some (by first | omega | decide | (simp; done) | (simp <;> omega))) ?_
        rintro ⟨g2, rfl⟩
        refine rr ?_
        intro b9 _
        cases hs : symF e.name sy with
        | some v0 =>
          have hx1 : expsF (atF l k : Int) syms o.exps = none := hexp.trans (by rw [hs])
          have hs1 : namesF [] [] 0 l = none := by rw [hspec, hx1]
          rw [hs1]
          have hat2 := atK_mMap e.name sy
          rw [hs] at hat2
          simp only [Option.map_some] at hat2
          refine rr ?_
          refine dr [0, 1, 2, 3, 4, 5, 6, 7, 8, 9, 10, 11] [3, 5] [6, 0] ?_
          refine rr ?_
          rw [hat2]
          refine rr ?_
          exact we sy [6, 6] (fun s0 h => by cases h)
        | none =>
          have hx1 : expsF (atF l k : Int) syms o.exps = expsF (atF l k : Int) (sy ++ [(e.name, (atF l k : Int) + e.pl)]) (o.exps.drop (i + 1)) := hexp.trans (by rw [hs])
          have hat2 := atK_mMap e.name sy
          rw [hs] at hat2
          simp only [Option.map_none] at hat2
          have hput := putK_mMap e.name ((atF l k : Int) + e.pl) sy hs
          refine rr ?_
          refine dr [0, 1, 2, 3, 4, 5, 6, 7, 8, 9, 10, 11] [3, 5] [6, 0] ?_
          refine rr ?_
          rw [hat2]
          refine rr ?_
          refine dr [0, 1, 2, 3, 4, 5, 6, 7, 8, 9, 10] [3, 5, 8] [6, 0, 0] ?_
          refine rr ?_
          rw [hput]
          refine w_sub [3, 3, 3, 3, 3, 0, 2, 2] rfl ?_
          rw [← hea]
          exact w_round hK2 (i + 1, sy ++ [(e.name, (atF l k : Int) + e.pl)]) ⟨by show i + 1 ≤ o.exps.length; omega, hx1⟩ (by show o.exps.length - (i + 1) < o.exps.length - i; omega) rfl ⟨rfl, rfl, rfl, rfl, rfl, rfl, rfl, rfl, rfl, rfl, trivial⟩
      · obtain rfl : i = o.exps.length := by omega
        rw [List.drop_length] at hexp
        have hx1 : expsF (atF l k : Int) syms o.exps = some sy := hexp
        rw [hx1] at hspec
        have hspec2 : namesF [] [] 0 l = namesF ((l.take (k + 1)).map Ob.name) sy ((atF l k : Int) + o.code.length) (l.drop (k + 1)) := hspec
        have hst := atF_step he
        have hat1 : ((atF l k : Int) + (o.code.length : Int)) = (atF l (k + 1) : Int) := by rw [hst]; omega
        rw [hat1] at hspec2
        refine rr ?_
        refine w_sub [0, 0, 0, 1, 1, 1, 1] rfl ?_
        rw [hat1]
        exact w_round hK1 (k + 1, sy, x.1, x.2.1, x.2.2) ⟨by show k + 1 ≤ l.length; omega, hx, hspec2⟩ (by show l.length - (k + 1) < l.length - k; omega) rfl ⟨rfl, rfl, rfl, rfl, rfl, rfl, trivial⟩
  · obtain rfl : k = l.length := by omega
    rw [List.drop_length] at hspec
    rw [hspec]
    refine rr ?_
    exact we syms [3, 3] (fun s0 h => by simp [namesF] at h; exact h)
end Go.Proofs.Ytmaepdebbijkiaa

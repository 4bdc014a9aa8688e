/- Contracts of the table of scopes (package scope). -/
import Derived.Test.YtdjjlpgphkbehaaRr
namespace Go.Proofs.Ytdjjlpgphkbehaa
open Go Go.Sx Go.Sx.Chunk
set_option linter.unusedVariables false
set_option linter.unusedSimpArgs false

def entC (l : List (ByteArray × Int)) : List Value := l.flatMap fun e => [.string e.1, .int .i64 e.2]
def natC (l : List Nat) : List Value := l.map fun (n : Nat) => Value.int .i64 (n : Int)
theorem entC_len (l : List (ByteArray × Int)) : (entC l).length = l.length * 2 := by
  induction l with
  | nil => rfl
  | cons e l ih => simp only [entC, List.flatMap_cons, List.length_append, List.length_cons, List.length_nil] at ih ⊢; omega
theorem entC_get : ∀ (l : List (ByteArray × Int)) (i : Nat) (h : i < l.length), (entC l)[i * 2]? = some (.string l[i].1) ∧ (entC l)[i * 2 + 1]? = some (.int .i64 l[i].2)
  | e :: l, 0, _ => by simp [entC]
  | e :: l, i + 1, h => by
    have ih := entC_get l i (by simpa using h)
    simp only [entC, List.flatMap_cons] at ih ⊢
    rw [show (i + 1) * 2 = (i * 2) + 1 + 1 by omega]
    simpa using ih
theorem natC_get (l : List Nat) (i : Nat) (h : i < l.length) : (natC l)[i]? = some (.int .i64 (l[i] : Int)) := by simp [natC, h]
theorem natC_len (l : List Nat) : (natC l).length = l.length := by simp [natC]

theorem depth_spec (b o : Nat) (cs : List Value) (t : TypeId) (ao : Option Addr) (m cap : Nat) (h : nth cs (o + 1) = some (.slice ao m cap)) :
    FnC (α := Unit) Try.prog 12 [.pointer (some ⟨b, o, none⟩)] [blk b cs t] [] (fun _ => .int .i64 m) (fun _ => [blk b cs t]) (fun _ => True) := by
  refine fn_intro Try.func12 Try.ntmps12 rfl rfl rfl (fun w0 => ?_)
  try simp only [List.cons_append, List.nil_append, List.append_nil]
  refine rr ?_
  exact w_end1 () [0] (.inl rfl) rfl rfl rfl rfl trivial

theorem open_spec (b o : Nat) (cs : List Value) (t : TypeId) (ae ab : Option Addr) (ne ce nb cb : Nat) (bs : List Value) (h0 : nth cs (o + 0) = some (.slice ae ne ce)) (h1 : nth cs (o + 1) = some (.slice ab nb cb)) (hn : nb ≤ 1000000) :
    FnC Try.prog 8 [.pointer (some ⟨b, o, none⟩)] [blk b cs t, row ab cb 3 1 nb bs] [] (fun (x : Option Addr × Nat) => .tuple #[])
      (fun x => [blk b (cs.set (o + 1) (.slice x.1 (nb + 1) x.2)) t, row x.1 x.2 3 1 (nb + 1) (bs ++ [.int .i64 ne])]) (fun x => nb + 1 ≤ x.2) := by
  have hlt := nth_lt h1
  refine fn_intro Try.func8 Try.ntmps8 rfl rfl rfl (fun w0 => ?_)
  try simp only [List.cons_append, List.nil_append, List.append_nil]
  refine dr [0, 1, 2, 3, 4, 5, 6, 7, 8, 9, 10, 11, 12, 13, 14] [4, 8] [0] ?_
  refine rr ?_
  intro b1 _
  refine rr ?_
  rintro ⟨a1, c1⟩ ⟨hc1, _⟩
  refine rr ?_
  exact w_end0 (a1, c1) [0, 0] (.inr rfl) rfl rfl rfl hc1

/-- How deep the place i lies. -/
def decD (bs : List Nat) (i : Nat) : Nat → Nat
  | 0 => 0
  | d + 1 => if i < bs.getD d 0 then decD bs i d else d + 1
/-- What a name is: the last i entries are still to come. -/
def findG (es : List (ByteArray × Int)) (bs : List Nat) (name : ByteArray) : Nat → Nat → Int × Nat × Bool
  | 0, _ => (0, 0, false)
  | i + 1, d => if (es.getD i (.empty, 0)).1 = name then ((es.getD i (.empty, 0)).2, decD bs i d, true) else findG es bs name i (decD bs i d)

set_option maxHeartbeats 8000000 in
theorem find_spec (b o : Nat) (cs : List Value) (t : TypeId) (ae ab : Option Addr) (ne ce nb cb : Nat) (es : List (ByteArray × Int)) (bs : List Nat) (name : ByteArray) (h0 : nth cs (o + 0) = some (.slice ae ne ce)) (h1 : nth cs (o + 1) = some (.slice ab nb cb)) (hne : ne = es.length) (hnb : nb = bs.length) (hn : ne ≤ 1000000) (hn2 : nb ≤ 1000000) (hbs : ∀ x ∈ bs, x ≤ 1000000) :
    FnC Try.prog 10 [.pointer (some ⟨b, o, none⟩), .string name] [blk b cs t, row ae ce 51 2 ne (entC es), row ab cb 3 1 nb (natC bs)] [] (fun (x : Unit) => .tuple #[.int .i64 (findG es bs name ne nb).1, .int .i64 (findG es bs name ne nb).2.1, .bool (findG es bs name ne nb).2.2])
      (fun _ => [blk b cs t, row ae ce 51 2 ne (entC es), row ab cb 3 1 nb (natC bs)]) (fun _ => True) := by
  refine fn_intro Try.func10 Try.ntmps10 rfl rfl rfl (fun w0 => ?_)
  try simp only [List.cons_append, List.nil_append, List.append_nil]
  refine rr ?_
  refine ca [0] (depth_spec b o cs t ab nb cb h1) ?_
  intro x hx
  try simp only [List.cons_append, List.nil_append, List.append_nil]
  refine rr ?_
  refine w_loop (α := Nat × Nat) (fun x => [(0, .pointer (some ⟨b, o, none⟩)), (1, .string name), (7, .int .i64 x.2), (8, .int .i64 ((x.1 : Int) - 1))]) (fun _ => [blk b cs t, row ae ce 51 2 ne (entC es), row ab cb 3 1 nb (natC bs)])
    (fun x => x.1 ≤ ne ∧ x.2 ≤ nb ∧ findG es bs name x.1 x.2 = findG es bs name ne nb) (fun x => x.1) (ne, nb) ⟨rfl, rfl, rfl, rfl, trivial⟩ rfl ⟨Nat.le_refl _, Nat.le_refl _, rfl⟩ ?_
  rintro ⟨k, d⟩ ⟨hk, hd, hfind⟩ K1 hK1
  dsimp only at hk hd hfind ⊢
  by_cases hc : 1 ≤ k
  · -- a round
    refine w_use (fun w hw => (hw.pick 1 rfl).row_some (by omega)) ?_
    rintro ⟨g, rfl⟩
    obtain ⟨j, rfl⟩ : ∃ j, k = j + 1 := ⟨k - 1, by omega⟩
    have hj : (((j + 1 : Nat) : Int) - 1) = j := by omega
    rw [hj]
    clear hj
    refine w_use (fun w hw => (hw.pick 1 rfl).row_cap) fun hcap => ?_
    refine rr ?_
    -- the inner loop
    refine w_loop (α := Nat) (fun d' => [(0, .pointer (some ⟨b, o, none⟩)), (1, .string name), (7, .int .i64 d'), (8, .int .i64 (j : Int))]) (fun _ => [blk b cs t, row (some ⟨g, 0, none⟩) ce 51 2 ne (entC es), row ab cb 3 1 nb (natC bs)])
      (fun d' => d' ≤ d ∧ decD bs j d' = decD bs j d) (fun d' => d') d ⟨rfl, rfl, rfl, rfl, trivial⟩ rfl ⟨Nat.le_refl _, rfl⟩ ?_
    rintro d' ⟨hd', hdec⟩ K2 hK2
    have hg0 : (es.getD j (.empty, 0)) = es[j] := by simp [show j < es.length by omega]
    have he1 : (entC es)[0 + (j : Int).toNat * 2 + 0]? = some (.string es[j].1) := by
      rw [show 0 + (j : Int).toNat * 2 + 0 = j * 2 by omega]; exact (entC_get es j (by omega)).1
    have he2 : (entC es)[0 + (j : Int).toNat * 2 + 1]? = some (.int .i64 es[j].2) := by
      rw [show 0 + (j : Int).toNat * 2 + 1 = j * 2 + 1 by omega]; exact (entC_get es j (by omega)).2
    cases d' with
    | zero =>
      refine rr ?_
      refine w_cond rfl (fun hc => ?_) (fun hc => ?_)
      · simp only [decide_eq_true_eq] at hc
        refine rr ?_
        refine w_end3 () [0, 0, 0] (.inl rfl) rfl rfl rfl rfl ?_ rfl trivial
        rw [← hfind]
        simp only [findG, hg0, hc, if_true, ← hdec, decD]
      · simp only [decide_eq_false_iff_not] at hc
        refine rr ?_
        refine w_round hK1 (j, 0) ⟨by omega, by omega, ?_⟩ (by show j < j + 1; omega) rfl ⟨rfl, rfl, rfl, by first | rfl | (simp only [Env.get]; congr), trivial⟩
        rw [← hfind]
        simp only [findG, hg0, if_neg hc, ← hdec, decD]
    | succ e =>
      refine w_use (fun w hw => (hw.pick 2 rfl).row_some (by omega)) ?_
      rintro ⟨g2, rfl⟩
      have hb1 := natC_get bs e (by omega)
      have hb2 : (natC bs)[0 + (((e + 1 : Nat) : Int) - 1).toNat * 1]? = some (.int .i64 ((bs.getD e 0 : Nat) : Int)) := by
        rw [show 0 + (((e + 1 : Nat) : Int) - 1).toNat * 1 = e by omega, hb1]
        simp [show e < bs.length by omega]
      clear hb1
      refine rr ?_
      refine w_cond rfl (fun hc => ?_) (fun hc => ?_)
      · simp only [decide_eq_true_eq] at hc
        refine rr ?_
        refine w_round hK2 e ⟨by omega, ?_⟩ (by show e < e + 1; omega) rfl ⟨rfl, rfl, ?_, rfl, trivial⟩
        · rw [← hdec]; simp only [decD]; rw [if_pos (by omega)]
        · show some (Value.int IntKind.i64 (((e + 1 : Nat) : Int) - 1)) = _
          rw [show (((e + 1 : Nat) : Int) - 1) = e by omega]
      · simp only [decide_eq_false_iff_not] at hc
        have hdd : decD bs j (e + 1) = e + 1 := by simp only [decD]; rw [if_neg (by omega)]
        refine rr ?_
        refine w_cond rfl (fun hc => ?_) (fun hc => ?_)
        · simp only [decide_eq_true_eq] at hc
          refine rr ?_
          refine w_end3 () [0, 0, 0] (.inl rfl) rfl rfl rfl rfl ?_ rfl trivial
          rw [← hfind]
          simp only [findG, hg0, hc, if_true, ← hdec, hdd]
        · simp only [decide_eq_false_iff_not] at hc
          refine rr ?_
          refine w_round hK1 (j, e + 1) ⟨by omega, by omega, ?_⟩ (by show j < j + 1; omega) rfl ⟨rfl, rfl, rfl, by first | rfl | (simp only [Env.get]; congr), trivial⟩
          rw [← hfind]
          simp only [findG, hg0, if_neg hc, ← hdec, hdd]
  · -- all have been looked at
    have hk0 : k = 0 := by omega
    subst hk0
    refine rr ?_
    refine w_end3 () [0, 0, 0] (.inl rfl) rfl rfl rfl rfl ?_ rfl trivial
    rw [← hfind]
    rfl

theorem entC_snoc (l : List (ByteArray × Int)) (e : ByteArray × Int) : entC (l ++ [e]) = entC l ++ [.string e.1, .int .i64 e.2] := by simp [entC]
/-- May a name be defined? -/
def defOk (es : List (ByteArray × Int)) (bs : List Nat) (name : ByteArray) : Bool :=
  bs.length != 0 && !((findG es bs name es.length bs.length).2.2 && decide ((findG es bs name es.length bs.length).2.1 = bs.length))

set_option maxHeartbeats 4000000 in
theorem define_spec (b o : Nat) (cs : List Value) (t : TypeId) (ae ab : Option Addr) (ne ce nb cb : Nat) (es : List (ByteArray × Int)) (bs : List Nat) (name : ByteArray) (v : Int) (h0 : nth cs (o + 0) = some (.slice ae ne ce)) (h1 : nth cs (o + 1) = some (.slice ab nb cb)) (hne : ne = es.length) (hnb : nb = bs.length) (hn : ne ≤ 1000000) (hn2 : nb ≤ 1000000) (hbs : ∀ x ∈ bs, x ≤ 1000000) (hok : defOk es bs name = true) :
    FnC Try.prog 9 [.pointer (some ⟨b, o, none⟩), .string name, .int .i64 v] [blk b cs t, row ae ce 51 2 ne (entC es), row ab cb 3 1 nb (natC bs)] [] (fun (x : Option Addr × Nat) => .bool true)
      (fun x => [blk b (cs.set o (.slice x.1 (ne + 1) x.2)) t, row x.1 x.2 51 2 (ne + 1) (entC (es ++ [(name, v)])), row ab cb 3 1 nb (natC bs)]) (fun x => ne + 1 ≤ x.2) := by
  have hlt := nth_lt h0
  simp only [Nat.add_zero] at hlt
  simp only [defOk, Bool.and_eq_true, bne_iff_ne, ne_eq, Bool.not_eq_true', ← hnb, ← hne] at hok
  obtain ⟨hk0, hk1⟩ := hok
  have hz : ((nb : Int) == 0) = false := by rw [beq_eq_false_iff_ne]; omega
  refine fn_intro Try.func9 Try.ntmps9 rfl rfl rfl (fun w0 => ?_)
  try simp only [List.cons_append, List.nil_append, List.append_nil]
  refine rr ?_
  refine ca [0] (depth_spec b o cs t ab nb cb h1) ?_
  intro x hx
  try simp only [List.cons_append, List.nil_append, List.append_nil]
  refine rr ?_
  rw [hz]
  refine rr ?_
  refine ca [0, 0, 0] (find_spec b o cs t ae ab ne ce nb cb es bs name h0 h1 hne hnb hn hn2 hbs) ?_
  intro x hx
  try simp only [List.cons_append, List.nil_append, List.append_nil]
  generalize findG es bs name ne nb = r at hk1 ⊢
  obtain ⟨rv, rd, rok⟩ := r
  dsimp only at hk1 ⊢
  cases rok with
  | false =>
    refine rr ?_
    intro b1 _
    refine rr ?_
    rintro ⟨a1, c1⟩ ⟨hc1, _⟩
    refine rr ?_
    refine w_end1 (R := []) (a1, c1) [0, 0, 0] (.inl rfl) rfl rfl rfl ?_ hc1
    simp only [entC_snoc]
    rfl
  | true =>
    have hd : ((rd : Int) == nb) = false := by rw [beq_eq_false_iff_ne]; simp at hk1; omega
    refine rr ?_
    refine ca [0] (depth_spec b o cs t ab nb cb h1) ?_
    intro x hx
    try simp only [List.cons_append, List.nil_append, List.append_nil]
    refine rr ?_
    rw [hd]
    refine rr ?_
    intro b1 _
    refine rr ?_
    rintro ⟨a1, c1⟩ ⟨hc1, _⟩
    refine rr ?_
    refine w_end1 (R := []) (a1, c1) [0, 0, 0] (.inl rfl) rfl rfl rfl ?_ hc1
    simp only [entC_snoc]
    rfl

set_option maxHeartbeats 4000000 in
theorem define_no (b o : Nat) (cs : List Value) (t : TypeId) (ae ab : Option Addr) (ne ce nb cb : Nat) (es : List (ByteArray × Int)) (bs : List Nat) (name : ByteArray) (v : Int) (h0 : nth cs (o + 0) = some (.slice ae ne ce)) (h1 : nth cs (o + 1) = some (.slice ab nb cb)) (hne : ne = es.length) (hnb : nb = bs.length) (hn : ne ≤ 1000000) (hn2 : nb ≤ 1000000) (hbs : ∀ x ∈ bs, x ≤ 1000000) (hok : defOk es bs name = false) :
    FnC Try.prog 9 [.pointer (some ⟨b, o, none⟩), .string name, .int .i64 v] [blk b cs t, row ae ce 51 2 ne (entC es), row ab cb 3 1 nb (natC bs)] [] (fun (x : Unit) => .bool false)
      (fun x => [blk b cs t, row ae ce 51 2 ne (entC es), row ab cb 3 1 nb (natC bs)]) (fun x => True) := by
  simp only [defOk, ← hnb, ← hne] at hok
  refine fn_intro Try.func9 Try.ntmps9 rfl rfl rfl (fun w0 => ?_)
  try simp only [List.cons_append, List.nil_append, List.append_nil]
  refine rr ?_
  refine ca [0] (depth_spec b o cs t ab nb cb h1) ?_
  intro x hx
  try simp only [List.cons_append, List.nil_append, List.append_nil]
  refine rr ?_
  by_cases hk0 : nb = 0
  · have hz : ((nb : Int) == 0) = true := by rw [beq_iff_eq]; omega
    rw [hz]
    refine rr ?_
    exact w_end1 () [0, 0, 0] (.inl rfl) rfl rfl rfl rfl trivial
  · have hz : ((nb : Int) == 0) = false := by rw [beq_eq_false_iff_ne]; omega
    have hz2 : (nb != 0) = true := by simpa using hk0
    rw [hz2] at hok
    rw [hz]
    refine rr ?_
    refine ca [0, 0, 0] (find_spec b o cs t ae ab ne ce nb cb es bs name h0 h1 hne hnb hn hn2 hbs) ?_
    intro x hx
    try simp only [List.cons_append, List.nil_append, List.append_nil]
    generalize findG es bs name ne nb = r at hok ⊢
    obtain ⟨rv, rd, rok⟩ := r
    dsimp only at hok ⊢
    simp only [Bool.true_and, Bool.not_eq_false', Bool.and_eq_true, decide_eq_true_eq] at hok
    obtain ⟨hok1, hok2⟩ := hok
    subst hok1
    have hd : ((rd : Int) == nb) = true := by rw [beq_iff_eq]; omega
    refine rr ?_
    refine ca [0] (depth_spec b o cs t ab nb cb h1) ?_
    intro x hx
    try simp only [List.cons_append, List.nil_append, List.append_nil]
    refine rr ?_
    rw [hd]
    refine rr ?_
    exact w_end1 () [0, 0, 0] (.inl rfl) rfl rfl rfl rfl trivial

theorem close_no (b o : Nat) (cs : List Value) (t : TypeId) (ab : Option Addr) (cb : Nat) (h1 : nth cs (o + 1) = some (.slice ab 0 cb)) :
    FnC (α := Unit) Try.prog 11 [.pointer (some ⟨b, o, none⟩)] [blk b cs t] [] (fun _ => .bool false) (fun _ => [blk b cs t]) (fun _ => True) := by
  refine fn_intro Try.func11 Try.ntmps11 rfl rfl rfl (fun w0 => ?_)
  try simp only [List.cons_append, List.nil_append, List.append_nil]
  refine rr ?_
  exact w_end1 () [0] (.inl rfl) rfl rfl rfl rfl trivial

theorem entC_one (l : List (ByteArray × Int)) : ∀ u ∈ entC l, u.oneCell' = true := by
  intro u hu
  simp only [entC, List.mem_flatMap] at hu
  obtain ⟨e, _, hu⟩ := hu
  simp at hu
  rcases hu with rfl | rfl <;> rfl
theorem entC_take (l : List (ByteArray × Int)) (k : Nat) : (entC l).take (k * 2) = entC (l.take k) := by
  induction l generalizing k with
  | nil => simp [entC]
  | cons e l ih =>
    cases k with
    | zero => simp [entC]
    | succ k =>
      have := ih k
      simp only [entC, List.flatMap_cons, List.take_succ_cons] at this ⊢
      rw [show (k + 1) * 2 = k * 2 + 1 + 1 by omega]
      simp [this]
theorem natC_take (l : List Nat) (k : Nat) : (natC l).take (k * 1) = natC (l.take k) := by simp [natC, List.map_take]

set_option maxHeartbeats 4000000 in
theorem close_spec (b o : Nat) (cs : List Value) (t : TypeId) (ae ab : Option Addr) (ne ce nb cb c : Nat) (es : List (ByteArray × Int)) (bs : List Nat) (h0 : nth cs (o + 0) = some (.slice ae ne ce)) (h1 : nth cs (o + 1) = some (.slice ab (nb + 1) cb)) (hne : ne = es.length) (hnb : nb + 1 = bs.length) (hn : ne ≤ 1000000) (hn2 : nb ≤ 1000000) (hc : bs[nb]? = some c) (hcn : c ≤ ne) :
    FnC Try.prog 11 [.pointer (some ⟨b, o, none⟩)] [blk b cs t, row ae ce 51 2 ne (entC es), row ab cb 3 1 (nb + 1) (natC bs)] [] (fun (x : Option Addr × Nat) => .bool true)
      (fun x => [blk b ((cs.set o (.slice x.1 c x.2)).set (o + 1) (.slice ab nb cb)) t, row x.1 x.2 51 2 c (entC (es.take c)), row ab cb 3 1 nb (natC (bs.take nb))]) (fun x => c ≤ x.2) := by
  have hlt := nth_lt h0
  simp only [Nat.add_zero] at hlt
  have hlt1 := nth_lt h1
  have hone := entC_one es
  have hz : (((nb + 1 : Nat) : Int) == 0) = false := by rw [beq_eq_false_iff_ne]; omega
  refine fn_intro Try.func11 Try.ntmps11 rfl rfl rfl (fun w0 => ?_)
  try simp only [List.cons_append, List.nil_append, List.append_nil]
  refine w_use (fun w hw => (hw.pick 2 rfl).row_some (by omega)) ?_
  rintro ⟨g, rfl⟩
  refine w_use (fun w hw => (hw.pick 1 rfl).row_cap) fun hcap => ?_
  have hb : (natC bs)[0 + (((nb + 1 : Nat) : Int) - 1).toNat * 1]? = some (.int .i64 (c : Int)) := by
    rw [show 0 + (((nb + 1 : Nat) : Int) - 1).toNat * 1 = nb by omega, natC_get bs nb (by omega)]
    simp [List.getElem?_eq_some_iff] at hc
    obtain ⟨hc1, hc2⟩ := hc
    rw [hc2]
  refine rr ?_
  rw [hz]
  refine rr ?_
  refine w_turn (fun w hw => hw.row_nil 51 2) ?_
  refine dr [0, 1, 2, 3, 4, 5, 6, 7, 8, 9, 10, 11, 12, 13, 14, 15, 16, 17] [4, 8, 12] [1, 3] ?_
  refine rr ?_
  rintro ⟨a1, c1⟩ hc1
  dsimp only at hc1 ⊢
  have e1 : 0 + ((c : Int)).toNat = c := by omega
  have e2 : ([] ++ (entC es).take (((c : Int)).toNat * 2)) = entC (es.take c) := by simp [entC_take]
  rw [e1] at hc1
  rw [e1, e2]
  refine rr ?_
  refine w_turn (fun w hw => by have := (hw.pick 3 rfl).row_shrink (m := nb) (by omega); rw [natC_take] at this; exact this) ?_
  have h2 : nth (cs.set o (.slice a1 c c1)) (o + 1) = some (.slice (some ⟨g, 0, none⟩) (nb + 1) cb) := by rw [nth_set_ne (by omega)]; exact h1
  have hlt2 : o + 1 < (cs.set o (.slice a1 c c1)).length := by simpa using hlt1
  refine w_use (fun w hw => (hw.pick 0 rfl).row_cap) fun hcb => ?_
  have e3 : (((nb + 1 : Nat) : Int) - 1).toNat = nb := by omega
  refine rr ?_
  rw [e3]
  exact w_end1 (a1, c1) [0, 1, 0] (.inl rfl) rfl rfl rfl rfl hc1
end Go.Proofs.Ytdjjlpgphkbehaa

/- Put: the walk. -/
import Derived.Test.YtgmegfmabkkaoaaPw1
import Derived.Test.YtgmegfmabkkaoaaPw2
namespace Go.Proofs.Ytgmegfmabkkaoaa
open Go Go.Sx Go.Sx.Chunk
set_option linter.unusedVariables false
set_option linter.unusedSimpArgs false

def codeB (l : List In) : List UInt8 := l.flatMap fun i => fourB (encF i)
def exB (l : List Sy) : List UInt8 := l.flatMap fun x => nameB x.name ++ fourB x.pl
def imB (l : List ByteArray) : List UInt8 := l.flatMap nameB
def paB (l : List Pa) : List UInt8 := l.flatMap fun p => fourB p.pl ++ ([b8 p.kind] ++ [b8 p.n])
def putF (o : Ob) : List UInt8 := dsF ++ nameB o.name ++ fourB (o.code.length : Int) ++ codeB o.code ++ fourB o.data ++ [b8 (o.exps.length : Int)] ++ exB o.exps ++ [b8 (o.imps.length : Int)] ++ imB o.imps ++ fourB (o.pats.length : Int) ++ paB o.pats
theorem fourB_len (n : Int) : (fourB n).length = 4 := rfl
theorem nameB_len (s : ByteArray) : (nameB s).length = s.size + 1 := by simp [nameB, txt_len]
theorem codeB_len (l : List In) : (codeB l).length = 4 * l.length := by
  induction l with
  | nil => rfl
  | cons a l ih => simp only [codeB, List.flatMap_cons, List.length_append, fourB_len, List.length_cons] at ih ⊢; omega
theorem exB_len {l : List Sy} (h : ∀ x ∈ l, x.name.size ≤ 16) : (exB l).length ≤ 21 * l.length := by
  induction l with
  | nil => simp [exB]
  | cons a l ih =>
    have h1 := ih (fun x hx => h x (by simp [hx]))
    have h2 := h a (by simp)
    simp only [exB, List.flatMap_cons, List.length_append, fourB_len, nameB_len, List.length_cons] at h1 ⊢
    omega
theorem imB_len {l : List ByteArray} (h : ∀ x ∈ l, x.size ≤ 16) : (imB l).length ≤ 17 * l.length := by
  induction l with
  | nil => simp [imB]
  | cons a l ih =>
    have h1 := ih (fun x hx => h x (by simp [hx]))
    have h2 := h a (by simp)
    simp only [imB, List.flatMap_cons, List.length_append, nameB_len, List.length_cons] at h1 ⊢
    omega
theorem paB_len (l : List Pa) : (paB l).length = 6 * l.length := by
  induction l with
  | nil => rfl
  | cons a l ih => simp only [paB, List.flatMap_cons, List.length_append, fourB_len, List.length_cons, List.length_nil] at ih ⊢; omega
theorem codeB_snoc (l : List In) (a : In) : codeB (l ++ [a]) = codeB l ++ fourB (encF a) := by simp [codeB]
theorem exB_snoc (l : List Sy) (a : Sy) : exB (l ++ [a]) = exB l ++ (nameB a.name ++ fourB a.pl) := by simp [exB]
theorem imB_snoc (l : List ByteArray) (a : ByteArray) : imB (l ++ [a]) = imB l ++ nameB a := by simp [imB]
theorem paB_snoc (l : List Pa) (a : Pa) : paB (l ++ [a]) = paB l ++ (fourB a.pl ++ ([b8 a.kind] ++ [b8 a.n])) := by simp [paB]
theorem nameF_len {s : ByteArray} (h : nameF s = true) : 1 ≤ s.size ∧ s.size ≤ 16 := by
  unfold nameF at h
  simp only [Bool.and_eq_true, decide_eq_true_eq] at h
  exact ⟨h.1, h.2.1⟩
theorem chkL_names : ∀ {l acc : List ByteArray}, chkL acc l = true → ∀ x ∈ l, nameF x = true
  | [], acc, _, x, hx => by simp at hx
  | a :: l, acc, h, x, hx => by
    simp only [chkL, Bool.and_eq_true] at h
    rcases List.mem_cons.1 hx with rfl | hx
    · exact h.1
    · exact chkL_names h.2.2 x hx
/-- What a right object's parts are like. -/
structure GoodP (o : Ob) : Prop where
  name : nameF o.name = true
  code : o.code.length ≤ 4096
  ins : ∀ i ∈ o.code, goodI i = true
  data : 0 ≤ o.data ∧ o.data ≤ 32000
  exps : o.exps.length ≤ 255
  exn : ∀ x ∈ o.exps, nameF x.name = true ∧ 0 ≤ x.pl ∧ x.pl ≤ (o.code.length : Int)
  imps : o.imps.length ≤ 255
  imn : ∀ x ∈ o.imps, nameF x = true
  pats : o.pats.length ≤ 4096
  pat : ∀ p ∈ o.pats, 0 ≤ p.pl ∧ p.pl < (o.code.length : Int) ∧ 0 ≤ p.kind ∧ p.kind < 5 ∧ 0 ≤ p.n ∧ p.n < 256
theorem goodP_of {o : Ob} (h : goodO o = true) : GoodP o := by
  obtain ⟨h1, h2, h3, h4, h5, h6, ⟨h7, h8⟩, ⟨h9, h10⟩, h11, h12⟩ := (goodO_parts o).1 h
  refine ⟨h2, h3, fun i hi => ?_, ⟨h5, h6⟩, h8, fun x hx => ⟨chkL_names h7 x.name (List.mem_map.2 ⟨x, hx, rfl⟩), ?_⟩, h10, chkL_names h9, h11, fun p hp => ?_⟩
  · rw [List.any_eq_false] at h4
    have := h4 i hi
    simpa using this
  · rw [List.all_eq_true] at h1
    have := h1 x hx
    simp only [goodE, Bool.and_eq_true, decide_eq_true_eq] at this
    exact this
  · rw [List.any_eq_false] at h12
    have h13 := h12 p hp
    have h14 : ¬ goodP o.code.length o.imps.length p = false := by simpa using h13
    rw [goodP_parts] at h14
    by_cases hk : p.kind = 2
    · rw [if_pos hk] at h14; omega
    · rw [if_neg hk] at h14; omega
theorem obS_lend_w {R : List Chunk} {o : Ob} (h : ∀ c ∈ obS o, Prov R c) : LendsAll R (obS o) :=
  lend_prov rfl (h _ (by simp [obS])) (lend_prov rfl (h _ (by simp [obS])) (lend_prov rfl (h _ (by simp [obS])) (lend_prov rfl (h _ (by simp [obS])) trivial)))
set_option maxHeartbeats 4000000 in
theorem putC (o : Ob) (hok : OkOb o) : FnC (α := Unit) Try.prog 12 [obG o] [] (obS o) (fun _ => .tuple #[.string (if goodO o then mkB (putF o) else .empty), .int .i64 (if goodO o then 0 else 1)]) (fun _ => []) (fun _ => True) := by
  have hrt := rightOC o hok
  unfold obG obS
  unfold obG obS at hrt
  refine fn_intro Try.func12 Try.ntmps12 rfl rfl rfl (fun w0 => ?_)
  try simp only [List.cons_append, List.nil_append, List.append_nil]
  refine rr ?_
  intro b1 _
  refine rr ?_
  refine cl (hrt) ?_
  intro _ _
  try simp only [List.cons_append, List.nil_append, List.append_nil]
  cases hg : goodO o with
  | false =>
    refine rr ?_
    exact en () trivial
  | true =>
  obtain ⟨g1, g2, g3, g4, g5, g6, g7, g8, g9, g10⟩ := goodP_of hg
  have n1 := nameF_len g1
  simp only [if_true]
  have hds : [Value.int .u8 68, .int .u8 83] = u8C dsF := rfl
  refine rr ?_
  intro b18 _
  refine rr ?_
  intro _ _
  refine rr ?_
  intro b4 _
  refine rr ?_
  rw [hds]
  refine cl (nameW0C b4 b18 o.name (by omega)) ?_ (hp := by unfold wr0; (repeat (first | exact Has.nil | (apply Has.cons; focus ((repeat (first | exact pick_here | apply pick_there)); done)) | apply Has.nrow | apply Has.gen0)))
  rintro ⟨xa, xc⟩ _
  simp only [List.cons_append, List.nil_append, List.append_nil, wrH]
  refine rr ?_
  have l1 : (dsF ++ nameB o.name).length ≤ 100 := by rw [List.length_append, nameB_len]; show 2 + _ ≤ _; omega
  generalize hL1 : dsF ++ nameB o.name = L1 at l1
  refine cl (fourC b4 xa xc L1 (o.code.length : Int) (by omega)) ?_ (hp := by unfold wrH; (repeat (first | exact Has.nil | (apply Has.cons; focus ((repeat (first | exact pick_here | apply pick_there)); done)) | apply Has.nrow | apply Has.gen0)))
  rintro ⟨xa, xc⟩ _
  simp only [List.cons_append, List.nil_append, List.append_nil, wrH]
  have l2 : (L1 ++ fourB (o.code.length : Int)).length ≤ 110 := by rw [List.length_append, fourB_len]; omega
  generalize hL2 : L1 ++ fourB (o.code.length : Int) = L2 at l2
  refine rr ?_
  refine lo [1, 4, 32, 33] (fun x : Nat × Option Addr × Nat => [(34, .int .i64 (x.1 : Int))]) (fun x => [(0, blk b4 [.slice x.2.1 (L2 ++ codeB (o.code.take x.1)).length x.2.2] 59), (1, row x.2.1 x.2.2 5 1 (L2 ++ codeB (o.code.take x.1)).length (u8C (L2 ++ codeB (o.code.take x.1))))]) (fun x => x.1 ≤ o.code.length) (fun x => o.code.length - x.1) (0, xa, xc) (by omega) ?_ (hH := by simp only [List.take_zero, codeB, List.flatMap_nil, List.append_nil])
  rintro ⟨k, xa, xc⟩ hk K1 hK1
  dsimp only at hk ⊢
  by_cases hlt : k < o.code.length
  · obtain ⟨e, he⟩ := some_at hlt
    have hge := g3 e (List.mem_of_getElem? he)
    have heA : ((insC o.code).drop ((k : Int).toNat * 5)).take 5 = [.int .i64 e.op, .int .i64 e.a, .int .i64 e.b, .int .i64 e.c, .int .i64 e.imm] := insC_all he _ (by omega)
    have heL := insC_len o.code
    have hec := encC e
    rw [hge, if_pos rfl] at hec
    have l3 : (L2 ++ codeB (o.code.take k)).length ≤ 20000 := by rw [List.length_append, codeB_len, List.length_take]; omega
    refine rr ?_
    intro b6 _
    refine rr ?_
    refine cl (hec) ?_
    intro _ _
    try simp only [List.cons_append, List.nil_append, List.append_nil]
    refine rr ?_
    refine cl (fourC b4 xa xc (L2 ++ codeB (o.code.take k)) (encF e) (by omega)) ?_ (hp := by unfold wrH; (repeat (first | exact Has.nil | (apply Has.cons; focus ((repeat (first | exact pick_here | apply pick_there)); done)) | apply Has.nrow | apply Has.gen0)))
    rintro ⟨xa, xc⟩ _
    simp only [List.cons_append, List.nil_append, List.append_nil, wrH]
    have e2 : L2 ++ codeB (o.code.take k) ++ fourB (encF e) = L2 ++ codeB (o.code.take (k + 1)) := by rw [take_snoc he, codeB_snoc, List.append_assoc]
    rw [e2]
    refine rr ?_
    exact ro hK1 (k + 1, xa, xc) (by show k + 1 ≤ o.code.length; omega)
  obtain rfl : k = o.code.length := by omega
  rw [List.take_length]
  have l3 : (L2 ++ codeB o.code).length ≤ 20000 := by rw [List.length_append, codeB_len]; omega
  generalize hL3 : L2 ++ codeB o.code = L3 at l3
  refine rr ?_
  refine cl (fourC b4 xa xc L3 o.data (by omega)) ?_ (hp := by unfold wrH; (repeat (first | exact Has.nil | (apply Has.cons; focus ((repeat (first | exact pick_here | apply pick_there)); done)) | apply Has.nrow | apply Has.gen0)))
  rintro ⟨xa, xc⟩ _
  simp only [List.cons_append, List.nil_append, List.append_nil, wrH]
  have l4 : (L3 ++ fourB o.data).length ≤ 20010 := by rw [List.length_append, fourB_len]; omega
  generalize hL4 : L3 ++ fourB o.data = L4 at l4
  refine rr ?_
  refine cl (oneC b4 xa xc L4 (o.exps.length : Int) (by omega)) ?_ (hp := by unfold wrH; (repeat (first | exact Has.nil | (apply Has.cons; focus ((repeat (first | exact pick_here | apply pick_there)); done)) | apply Has.nrow | apply Has.gen0)))
  rintro ⟨xa, xc⟩ _
  simp only [List.cons_append, List.nil_append, List.append_nil, wrH]
  have l5 : (L4 ++ [b8 (o.exps.length : Int)]).length ≤ 20020 := by rw [List.length_append]; show _ + 1 ≤ _; omega
  generalize hL5 : L4 ++ [b8 (o.exps.length : Int)] = L5 at l5
  refine rr ?_
  refine lo [1, 4, 57, 58] (fun x : Nat × Option Addr × Nat => [(59, .int .i64 (x.1 : Int))]) (fun x => [(0, blk b4 [.slice x.2.1 (L5 ++ exB (o.exps.take x.1)).length x.2.2] 59), (1, row x.2.1 x.2.2 5 1 (L5 ++ exB (o.exps.take x.1)).length (u8C (L5 ++ exB (o.exps.take x.1))))]) (fun x => x.1 ≤ o.exps.length) (fun x => o.exps.length - x.1) (0, xa, xc) (by omega) ?_ (hH := by simp only [List.take_zero, exB, List.flatMap_nil, List.append_nil])
  rintro ⟨k, xa, xc⟩ hk K1 hK1
  dsimp only at hk ⊢
  by_cases hlt : k < o.exps.length
  · obtain ⟨e, he⟩ := some_at hlt
    have hge := g6 e (List.mem_of_getElem? he)
    have hgn := nameF_len hge.1
    have heA : ((syC o.exps).drop ((k : Int).toNat * 2)).take 2 = [.string e.name, .int .i64 e.pl] := syC_all he _ (by omega)
    have heL := syC_len o.exps
    have l6 : (L5 ++ exB (o.exps.take k)).length ≤ 30000 := by
      have := exB_len (l := o.exps.take k) (fun x hx => (nameF_len (g6 x (List.mem_of_mem_take hx)).1).2)
      rw [List.length_take] at this
      rw [List.length_append]; omega
    refine rr ?_
    intro b10 _
    refine rr ?_
    refine cl (nameWC b4 xa xc (L5 ++ exB (o.exps.take k)) e.name (by omega) (by omega)) ?_ (hp := by unfold wrH; (repeat (first | exact Has.nil | (apply Has.cons; focus ((repeat (first | exact pick_here | apply pick_there)); done)) | apply Has.nrow | apply Has.gen0)))
    rintro ⟨xa, xc⟩ _
    simp only [List.cons_append, List.nil_append, List.append_nil, wrH]
    refine rr ?_
    refine cl (fourC b4 xa xc (L5 ++ exB (o.exps.take k) ++ nameB e.name) e.pl (by rw [List.length_append, nameB_len]; omega)) ?_ (hp := by unfold wrH; (repeat (first | exact Has.nil | (apply Has.cons; focus ((repeat (first | exact pick_here | apply pick_there)); done)) | apply Has.nrow | apply Has.gen0)))
    rintro ⟨xa, xc⟩ _
    simp only [List.cons_append, List.nil_append, List.append_nil, wrH]
    have e2 : L5 ++ exB (o.exps.take k) ++ nameB e.name ++ fourB e.pl = L5 ++ exB (o.exps.take (k + 1)) := by rw [take_snoc he, exB_snoc, List.append_assoc, List.append_assoc]
    rw [e2]
    refine rr ?_
    exact ro hK1 (k + 1, xa, xc) (by show k + 1 ≤ o.exps.length; omega)
  obtain rfl : k = o.exps.length := by omega
  rw [List.take_length]
  have l6 : (L5 ++ exB o.exps).length ≤ 30000 := by
    have := exB_len (l := o.exps) (fun x hx => (nameF_len (g6 x hx).1).2)
    rw [List.length_append]; omega
  generalize hL6 : L5 ++ exB o.exps = L6 at l6
  refine rr ?_
  refine cl (oneC b4 xa xc L6 (o.imps.length : Int) (by omega)) ?_ (hp := by unfold wrH; (repeat (first | exact Has.nil | (apply Has.cons; focus ((repeat (first | exact pick_here | apply pick_there)); done)) | apply Has.nrow | apply Has.gen0)))
  rintro ⟨xa, xc⟩ _
  simp only [List.cons_append, List.nil_append, List.append_nil, wrH]
  have l7 : (L6 ++ [b8 (o.imps.length : Int)]).length ≤ 30020 := by rw [List.length_append]; show _ + 1 ≤ _; omega
  generalize hL7 : L6 ++ [b8 (o.imps.length : Int)] = L7 at l7
  refine rr ?_
  refine lo [1, 4, 78, 79] (fun x : Nat × Option Addr × Nat => [(80, .int .i64 (x.1 : Int))]) (fun x => [(0, blk b4 [.slice x.2.1 (L7 ++ imB (o.imps.take x.1)).length x.2.2] 59), (1, row x.2.1 x.2.2 5 1 (L7 ++ imB (o.imps.take x.1)).length (u8C (L7 ++ imB (o.imps.take x.1))))]) (fun x => x.1 ≤ o.imps.length) (fun x => o.imps.length - x.1) (0, xa, xc) (by omega) ?_ (hH := by simp only [List.take_zero, imB, List.flatMap_nil, List.append_nil])
  rintro ⟨k, xa, xc⟩ hk K1 hK1
  dsimp only at hk ⊢
  by_cases hlt : k < o.imps.length
  · obtain ⟨e, he⟩ := some_at hlt
    have hgn := nameF_len (g8 e (List.mem_of_getElem? he))
    have hst : (strC o.imps)[(k : Int).toNat * 1]? = some (.string e) := by rw [Nat.mul_one]; exact strC_at he
    have hsl := strC_len o.imps
    have l8 : (L7 ++ imB (o.imps.take k)).length ≤ 40000 := by
      have := imB_len (l := o.imps.take k) (fun x hx => (nameF_len (g8 x (List.mem_of_mem_take hx))).2)
      rw [List.length_take] at this
      rw [List.length_append]; omega
    refine rr ?_
    refine cl (nameWC b4 xa xc (L7 ++ imB (o.imps.take k)) e (by omega) (by omega)) ?_ (hp := by unfold wrH; (repeat (first | exact Has.nil | (apply Has.cons; focus ((repeat (first | exact pick_here | apply pick_there)); done)) | apply Has.nrow | apply Has.gen0)))
    rintro ⟨xa, xc⟩ _
    simp only [List.cons_append, List.nil_append, List.append_nil, wrH]
    have e2 : L7 ++ imB (o.imps.take k) ++ nameB e = L7 ++ imB (o.imps.take (k + 1)) := by rw [take_snoc he, imB_snoc, List.append_assoc]
    rw [e2]
    refine rr ?_
    exact ro hK1 (k + 1, xa, xc) (by show k + 1 ≤ o.imps.length; omega)
  obtain rfl : k = o.imps.length := by omega
  rw [List.take_length]
  have l8 : (L7 ++ imB o.imps).length ≤ 40000 := by
    have := imB_len (l := o.imps) (fun x hx => (nameF_len (g8 x hx)).2)
    rw [List.length_append]; omega
  generalize hL8 : L7 ++ imB o.imps = L8 at l8
  refine rr ?_
  refine cl (fourC b4 xa xc L8 (o.pats.length : Int) (by omega)) ?_ (hp := by unfold wrH; (repeat (first | exact Has.nil | (apply Has.cons; focus ((repeat (first | exact pick_here | apply pick_there)); done)) | apply Has.nrow | apply Has.gen0)))
  rintro ⟨xa, xc⟩ _
  simp only [List.cons_append, List.nil_append, List.append_nil, wrH]
  have l9 : (L8 ++ fourB (o.pats.length : Int)).length ≤ 40010 := by rw [List.length_append, fourB_len]; omega
  generalize hL9 : L8 ++ fourB (o.pats.length : Int) = L9 at l9
  refine rr ?_
  refine lo [4, 94, 95] (fun x : Nat × Option Addr × Nat => [(96, .int .i64 (x.1 : Int))]) (fun x => [(0, blk b4 [.slice x.2.1 (L9 ++ paB (o.pats.take x.1)).length x.2.2] 59), (1, row x.2.1 x.2.2 5 1 (L9 ++ paB (o.pats.take x.1)).length (u8C (L9 ++ paB (o.pats.take x.1))))]) (fun x => x.1 ≤ o.pats.length) (fun x => o.pats.length - x.1) (0, xa, xc) (by omega) ?_ (hH := by simp only [List.take_zero, paB, List.flatMap_nil, List.append_nil])
  rintro ⟨k, xa, xc⟩ hk K1 hK1
  dsimp only at hk ⊢
  by_cases hlt : k < o.pats.length
  · obtain ⟨e, he⟩ := some_at hlt
    have heA : ((paC o.pats).drop ((k : Int).toNat * 3)).take 3 = [.int .i64 e.pl, .int .i64 e.kind, .int .i64 e.n] := paC_all he _ (by omega)
    have heL := paC_len o.pats
    have l10 : (L9 ++ paB (o.pats.take k)).length ≤ 80000 := by rw [List.length_append, paB_len, List.length_take]; omega
    have l11 : (L9 ++ paB (o.pats.take k) ++ fourB e.pl).length ≤ 80010 := by rw [List.length_append, fourB_len]; omega
    have l12 : (L9 ++ paB (o.pats.take k) ++ fourB e.pl ++ [b8 e.kind]).length ≤ 80020 := by rw [List.length_append]; show _ + 1 ≤ _; omega
    refine rr ?_
    intro b14 _
    refine rr ?_
    refine cl (fourC b4 xa xc (L9 ++ paB (o.pats.take k)) e.pl (by omega)) ?_ (hp := by unfold wrH; (repeat (first | exact Has.nil | (apply Has.cons; focus ((repeat (first | exact pick_here | apply pick_there)); done)) | apply Has.nrow | apply Has.gen0)))
    rintro ⟨xa, xc⟩ _
    simp only [List.cons_append, List.nil_append, List.append_nil, wrH]
    refine rr ?_
    refine cl (oneC b4 xa xc (L9 ++ paB (o.pats.take k) ++ fourB e.pl) e.kind (by omega)) ?_ (hp := by unfold wrH; (repeat (first | exact Has.nil | (apply Has.cons; focus ((repeat (first | exact pick_here | apply pick_there)); done)) | apply Has.nrow | apply Has.gen0)))
    rintro ⟨xa, xc⟩ _
    simp only [List.cons_append, List.nil_append, List.append_nil, wrH]
    refine rr ?_
    refine cl (oneC b4 xa xc (L9 ++ paB (o.pats.take k) ++ fourB e.pl ++ [b8 e.kind]) e.n (by omega)) ?_ (hp := by unfold wrH; (repeat (first | exact Has.nil | (apply Has.cons; focus ((repeat (first | exact pick_here | apply pick_there)); done)) | apply Has.nrow | apply Has.gen0)))
    rintro ⟨xa, xc⟩ _
    simp only [List.cons_append, List.nil_append, List.append_nil, wrH]
    have e2 : L9 ++ paB (o.pats.take k) ++ fourB e.pl ++ [b8 e.kind] ++ [b8 e.n] = L9 ++ paB (o.pats.take (k + 1)) := by rw [take_snoc he, paB_snoc]; simp only [List.append_assoc]
    rw [e2]
    refine rr ?_
    exact ro hK1 (k + 1, xa, xc) (by show k + 1 ≤ o.pats.length; omega)
  obtain rfl : k = o.pats.length := by omega
  rw [List.take_length]
  have hL : L9 ++ paB o.pats = putF o := by
    rw [← hL9, ← hL8, ← hL7, ← hL6, ← hL5, ← hL4, ← hL3, ← hL2, ← hL1]
    rfl
  rw [hL]
  have hpos : 0 < (putF o).length := by
    rw [← hL, ← hL9, List.length_append, List.length_append, fourB_len]; omega
  have hcs : u8C (putF o) = bytC (mkB (putF o)) ++ [] := by rw [bytC_txt, txt_mkB, List.append_nil]
  have hsz : (putF o).length = (mkB (putF o)).size := (mkB_size _).symm
  refine w_use (fun w hw => (hw.pick 1 rfl).row_some (by first | omega | decide | (simp; done) | (simp <;> omega))) ?_
  rintro ⟨gg, rfl⟩
  refine rr ?_
  exact en () trivial
end Go.Proofs.Ytgmegfmabkkaoaa

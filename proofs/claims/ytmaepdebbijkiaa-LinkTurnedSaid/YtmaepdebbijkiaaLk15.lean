/- LinkTurned, LinkOps, LinkParts: the walks. -/
import Derived.Test.YtmaepdebbijkiaaLk14
namespace Go.Proofs.Ytmaepdebbijkiaa
open Go Go.Sx Go.Sx.Chunk
set_option linter.unusedVariables false
set_option linter.unusedSimpArgs false

set_option maxHeartbeats 2000000 in
theorem turned_law (oa ob : Ob) (mem : Int) (hoa : OkOb oa) (hob : OkOb ob) :
    FnC (α := Unit) Try.prog 6 [obG oa, obG ob, .int .i64 mem] [] [seeO [oa], seeO [ob]] (fun _ => .bool true) (fun _ => []) (fun _ => True) := by
  unfold obG
  refine fn_intro Try.func6 Try.ntmps6 rfl rfl rfl (fun w0 => ?_)
  try simp only [List.cons_append, List.nil_append, List.append_nil]
  have hok : ∀ x ∈ [oa, ob], OkOb x := fun x hx => by
    simp only [List.mem_cons, List.not_mem_nil, or_false] at hx
    rcases hx with rfl | rfl <;> assumption
  have hok' : ∀ x ∈ [ob, oa], OkOb x := fun x hx => by
    simp only [List.mem_cons, List.not_mem_nil, or_false] at hx
    rcases hx with rfl | rfl <;> assumption
  have hlend : ∀ {R : List Chunk} {k1 k2 : Nat}, nthC R k1 = some (seeO [oa]) → nthC R k2 = some (seeO [ob]) → ∀ x, (x = oa ∨ x = ob) → ∀ c ∈ obS x, Prov R c := fun h1 h2 x hx c hc => by
    rcases hx with rfl | rfl
    · exact prov_in h1 (List.mem_singleton.2 rfl) hc
    · exact prov_in h2 (List.mem_singleton.2 rfl) hc
  refine rr ?_
  intro b3 _
  refine rr ?_
  intro b4 _
  refine rr ?_
  intro b16 _
  refine rr ?_
  refine cl (refsC (some ⟨b16, 0, none⟩) 2 [oa, ob] hok) ?_ (ho := refW) (hl := lend_blk (by repeat (first | exact find_here | apply find_there)) (lend_see (fun x hx c hc => hlend (by repeat (first | exact find_here | apply find_there)) (by repeat (first | exact find_here | apply find_there)) x (by simpa using hx) c hc) trivial))
  rintro r ⟨hr1, hr2, hr3⟩
  cases hrk : r.ok with
  | false =>
    unfold refH
    rw [hrk]
    simp only [if_false, Bool.false_eq_true, List.nil_append]
    refine rr ?_
    refine cl (awakeC) ?_
    intro _ _
    try simp only [List.cons_append, List.nil_append, List.append_nil]
    refine rr ?_
    exact en () trivial
  | true =>
  unfold refH
  rw [hrk]
  simp only [if_true, List.cons_append, List.nil_append]
  obtain ⟨he1, he6, he4⟩ := err_turned oa ob mem
  have hl1 := @linkF_len0 [oa, ob] mem
  have hl2 := @linkF_len0 [ob, oa] mem
  have hd1 := @linkF_data [oa, ob] mem
  have hd2 := @linkF_data [ob, oa] mem
  have hbd : (linkF [oa, ob] mem).2.2 = 0 → (0 ≤ oa.data ∧ oa.data ≤ 32000) ∧ (0 ≤ ob.data ∧ ob.data ≤ 32000) := fun h => by
    have hg := (linkF_ok h).1.2.2.2
    exact ⟨⟨((goodO_parts oa).1 (hg oa (by simp))).2.2.2.2.1, ((goodO_parts oa).1 (hg oa (by simp))).2.2.2.2.2.1⟩, ⟨((goodO_parts ob).1 (hg ob (by simp))).2.2.2.2.1, ((goodO_parts ob).1 (hg ob (by simp))).2.2.2.2.2.1⟩⟩
  rw [len_turned] at hl1 hl2
  rw [data_turned] at hd1 hd2
  refine rr ?_
  intro b26 _
  refine rr ?_
  have c1 := linkC (some ⟨b26, 0, none⟩) 2 [oa, ob] mem (Nat.le_of_ble_eq_true rfl) hok
  generalize linkF [oa, ob] mem = r1 at c1 he1 he6 he4 hl1 hd1 hbd
  refine cl c1 ?_ (hl := lend_blk (by repeat (first | exact find_here | apply find_there)) (lend_see (fun x hx c hc => hlend (by repeat (first | exact find_here | apply find_there)) (by repeat (first | exact find_here | apply find_there)) x (by simpa using hx) c hc) trivial))
  rintro ⟨xa, xc⟩ _
  try simp only [List.cons_append, List.nil_append, List.append_nil]
  unfold linkV
  refine rr ?_
  intro b9 _
  refine rr ?_
  intro b34 _
  refine rr ?_
  have c2 := linkC (some ⟨b34, 0, none⟩) 2 [ob, oa] mem (Nat.le_of_ble_eq_true rfl) hok'
  generalize linkF [ob, oa] mem = r2 at c2 he1 he6 he4 hl2 hd2
  refine cl c2 ?_ (hl := lend_blk (by repeat (first | exact find_here | apply find_there)) (lend_see (fun x hx c hc => hlend (by repeat (first | exact find_here | apply find_there)) (by repeat (first | exact find_here | apply find_there)) x (by simp at hx; rcases hx with h | h <;> simp [h]) c hc) trivial))
  rintro ⟨ya, yc⟩ _
  try simp only [List.cons_append, List.nil_append, List.append_nil]
  unfold linkV
  have q1 : ((r1.2.2 == 1) == (r2.2.2 == 1)) = true := by rw [beq_iff_eq, Bool.eq_iff_iff]; simpa using he1
  have q6 : ((r1.2.2 == 6) == (r2.2.2 == 6)) = true := by rw [beq_iff_eq, Bool.eq_iff_iff]; simpa using he6
  have q4 : ((r1.2.2 == 4) == (r2.2.2 == 4)) = true := by rw [beq_iff_eq, Bool.eq_iff_iff]; simpa using he4
  refine rr ?_
  intro b11 _
  refine rr ?_
  by_cases z1 : r1.2.2 = 0
  · by_cases z2 : r2.2.2 = 0
    · have l1 := hl1 z1
      have l2 := hl2 z2
      have d1 := hd1 z1
      have d2 := hd2 z2
      have hc1 := hoa.code
      have hc2 := hob.code
      have hb := hbd z1
      refine rr ?_
      refine cl (awakeC) ?_
      intro _ _
      try simp only [List.cons_append, List.nil_append, List.append_nil]
      refine rr ?_
      exact en () trivial
    · refine rr ?_
      refine cl (awakeC) ?_
      intro _ _
      try simp only [List.cons_append, List.nil_append, List.append_nil]
      refine rr ?_
      exact en () trivial
  · refine rr ?_
    refine cl (awakeC) ?_
    intro _ _
    try simp only [List.cons_append, List.nil_append, List.append_nil]
    refine rr ?_
    exact en () trivial

theorem codeF_at : ∀ {l : List Ob} {k i : Nat} {o : Ob}, l[k]? = some o → i < o.code.length → (codeF l)[atF l k + i]? = o.code[i]?
  | [], k, i, o, h, _ => by simp at h
  | x :: l, 0, i, o, h, hi => by
    simp only [List.getElem?_cons_zero, Option.some.injEq] at h
    subst h
    simp [codeF, atF, List.getElem?_append_left hi]
  | x :: l, k + 1, i, o, h, hi => by
    have ih := codeF_at (l := l) (k := k) (i := i) (o := o) (by simpa using h) hi
    simp only [codeF, List.flatMap_cons] at ih ⊢
    have e : atF (x :: l) (k + 1) = x.code.length + atF l k := by simp [atF]
    rw [e, List.getElem?_append_right (by omega), ← ih]
    congr 1
    omega
set_option maxHeartbeats 2000000 in
theorem ops_law (a : Option Addr) (c : Nat) (l : List Ob) (mem : Int) (hok : ∀ o ∈ l, OkOb o) :
    FnC (α := Unit) Try.prog 7 [.slice a l.length c, .int .i64 mem] [] [rng a (obC l), seeO l] (fun _ => .bool true) (fun _ => []) (fun _ => True) := by
  refine fn_intro Try.func7 Try.ntmps7 rfl rfl rfl (fun w0 => ?_)
  try simp only [List.cons_append, List.nil_append, List.append_nil]
  refine rr ?_
  refine cl (refsC a c l hok) ?_ (ho := refW)
  rintro r ⟨hr1, hr2, hr3⟩
  cases hrk : r.ok with
  | false =>
    unfold refH
    rw [hrk]
    simp only [if_false, Bool.false_eq_true, List.nil_append]
    refine rr ?_
    refine cl (awakeC) ?_
    intro _ _
    try simp only [List.cons_append, List.nil_append, List.append_nil]
    refine rr ?_
    exact en () trivial
  | true =>
  have h6 : l.length ≤ 6 := by
    rw [hrk] at hr1
    have := hr1.symm
    simp at this
    exact this.1
  unfold refH
  rw [hrk]
  simp only [if_true, List.cons_append, List.nil_append]
  refine rr ?_
  have c1 := linkC a c l mem (by omega) hok
  have hops := @linkF_ops l mem
  have hl0 := @linkF_len0 l mem
  have her := @linkF_err0 l mem
  have hcd : (linkF l mem).2.2 = 0 → ∀ o ∈ l, o.code.length ≤ 4096 := fun h o ho => ((goodO_parts o).1 ((linkF_ok h).1.2.2.2 o ho)).2.2.1
  generalize linkF l mem = r1 at c1 hops hl0 her hcd
  refine cl (c1) ?_
  intro x _
  try simp only [List.cons_append, List.nil_append, List.append_nil]
  obtain ⟨xa, xc⟩ := x
  unfold linkV
  by_cases z1 : r1.2.2 = 0
  · have hlen := obC_len l
    have ho1 := hops z1
    have hl1 := hl0 z1
    have hcd1 := hcd z1
    have hl2 := insC_len r1.1
    have hat := atF_le hcd1 l.length
    have hcl : (codeF l).length = atF l l.length := by have := codeF_take l l.length; rwa [List.take_length] at this
    refine rr ?_
    intro b7 _
    refine rr ?_
    refine lo [7, 43, 44] (fun k : Nat => [(9, .int .i64 (atF l k : Int)), (45, .int .i64 (k : Int))]) (fun k => []) (fun k => k ≤ l.length) (fun k => l.length - k) 0 (by omega) ?_
    intro k hk K1 hK1
    by_cases hlt : k < l.length
    · obtain ⟨o, he⟩ := some_at (l := l) (k := k) (by omega)
      have hmem := List.mem_of_getElem? he
      have hat1 := atF_in he
      have hat2 := atF_step he
      have hco := hcd1 o hmem
      have heA : ((obC l).drop ((k : Int).toNat * 6)).take 6 = [.string o.name, .slice o.ca o.code.length o.cc, .int .i64 o.data, .slice o.ea o.exps.length o.ec, .slice o.ia o.imps.length o.ic, .slice o.pa o.pats.length o.pc] := obC_all he _ (by omega)
      have heL := obC_len l
      refine rr ?_
      intro b11 _
      refine rr ?_
      refine w_turn (fun w hw => look_ob hw (c := rng o.ca (insC o.code)) (k := 6) rfl hmem (by simp [obS]) rfl) ?_
      refine lo [7, 43, 44, 45, 50, 51] (fun i : Nat => [(9, .int .i64 ((atF l k + i : Nat) : Int)), (52, .int .i64 (i : Int))]) (fun i => []) (fun i => i ≤ o.code.length) (fun i => o.code.length - i) 0 (by omega) ?_
      intro i hi K2 hK2
      by_cases hil : i < o.code.length
      · obtain ⟨e, hee⟩ := some_at hil
        have heeA : ((insC o.code).drop ((i : Int).toNat * 5)).take 5 = [.int .i64 e.op, .int .i64 e.a, .int .i64 e.b, .int .i64 e.c, .int .i64 e.imm] := insC_all hee _ (by omega)
        have heeL := insC_len o.code
        obtain ⟨f, hff⟩ := some_at (l := r1.1) (k := atF l k + i) (by omega)
        have hef : opsI f = opsI e := by
          have h1 := congrArg (fun z => z[atF l k + i]?) ho1
          simp only [List.getElem?_map, hff, codeF_at he hil, hee, Option.map_some, Option.some.injEq] at h1
          exact h1
        simp only [opsI, Prod.mk.injEq] at hef
        obtain ⟨f1, f2, f3, f4⟩ := hef
        have hffA : ((insC r1.1).drop (((atF l k + i : Nat) : Int).toNat * 5)).take 5 = [.int .i64 f.op, .int .i64 f.a, .int .i64 f.b, .int .i64 f.c, .int .i64 f.imm] := insC_all hff _ (by omega)
        refine rr ?_
        intro b13 _
        refine rr ?_
        intro b14 _
        refine rr ?_
        exact ro hK2 (i + 1) (by omega)
      · obtain rfl : i = o.code.length := by omega
        refine rr ?_
        refine ro hK1 (k + 1) (by omega) (hE := ?_)
        rw [hat2]
        exact ⟨rfl, rfl, rfl, rfl, rfl, trivial⟩
    · obtain rfl : k = l.length := by omega
      refine rr ?_
      refine cl (awakeC) ?_
      intro _ _
      try simp only [List.cons_append, List.nil_append, List.append_nil]
      refine rr ?_
      exact en () trivial
  · obtain ⟨e1, e2⟩ := her z1
    rw [e1, e2]
    refine rr ?_
    intro b7 _
    refine rr ?_
    refine cl (awakeC) ?_
    intro _ _
    try simp only [List.cons_append, List.nil_append, List.append_nil]
    refine rr ?_
    exact en () trivial

theorem prov_tailG {ao : Option Addr} {cc n sz : Nat} {xs : List Value} (k : Nat) (hl : xs.length = n * sz) (hn : n ≤ cc) : Prov [rng ao xs] (rng (if cc = k then ao else ao.map (·.add (k * sz))) (xs.drop (k * sz))) := by
  by_cases hy : cc = k
  · rw [if_pos hy, List.drop_of_length_le (by rw [hl]; subst hy; exact Nat.mul_le_mul_right _ hn)]
    exact rng_nil
  · rw [if_neg hy]
    cases ao with
    | none => exact ⟨fun i hi => (by obtain ⟨_, ad, hd, _⟩ := hi; cases hd), fun w hw j v hj => by
        rw [List.getElem?_drop] at hj
        obtain ⟨a, ha, _⟩ := hw _ (List.mem_singleton.2 rfl) _ v hj
        cases ha⟩
    | some a => exact rng_drop _
theorem nmA : nameF "a".toUTF8 = true := by decide +kernel
theorem nmB : nameF "b".toUTF8 = true := by decide +kernel
theorem nmAB : "b".toUTF8 ≠ "a".toUTF8 := by decide +kernel
theorem okPln {nm : ByteArray} {ca : Option Addr} {cc : Nat} {code : List In} {data : Int} (h1 : nm.size ≤ maxLen) (h2 : code.length ≤ 200) : OkOb (plnO nm ca cc code data) :=
  ⟨h1, Nat.le_trans h2 (by decide), Nat.zero_le _, Nat.zero_le _, Nat.zero_le _, fun x hx => (by cases hx), fun x hx => (by cases hx)⟩
set_option maxHeartbeats 4000000 in
theorem parts_law (ca : Option Addr) (cc : Nat) (code : List In) (at_ x y : Int) (hcc : code.length ≤ cc) (hat : inK .u8 at_) (hx : inK .u16 x) (hy : inK .u16 y) :
    FnC (α := Unit) Try.prog 8 [.slice ca code.length cc, .int .u8 at_, .int .u16 x, .int .u16 y] [] [rng ca (insC code)] (fun _ => .bool true) (fun _ => []) (fun _ => True) := by
  have hat' : 0 ≤ at_ ∧ at_ ≤ 255 := hat
  have hx' : 0 ≤ x ∧ x ≤ 65535 := hx
  have hy' : 0 ≤ y ∧ y ≤ 65535 := hy
  refine fn_intro Try.func8 Try.ntmps8 rfl rfl rfl (fun w0 => ?_)
  try simp only [List.cons_append, List.nil_append, List.append_nil]
  by_cases h2 : 200 < code.length
  · refine rr ?_
    refine cl (awakeC) ?_
    intro _ _
    try simp only [List.cons_append, List.nil_append, List.append_nil]
    refine rr ?_
    exact en () trivial
  obtain ⟨k, hk⟩ : ∃ k : Nat, (k : Int) = min at_ (code.length : Int) := ⟨(min at_ (code.length : Int)).toNat, by omega⟩
  have hkl : k ≤ code.length := by omega
  obtain ⟨p, hp⟩ : ∃ p, p = x % 301 := ⟨_, rfl⟩
  obtain ⟨q, hq⟩ : ∃ q, q = y % 301 := ⟨_, rfl⟩
  have hp' : 0 ≤ p ∧ p ≤ 300 := by omega
  have hq' : 0 ≤ q ∧ q ≤ 300 := by omega
  refine rr ?_
  rw [← hp, ← hq, ← hk]
  obtain ⟨cb, hcb⟩ : ∃ cb, cb = (if cc = k then ca else ca.map (·.add (k * 5))) := ⟨_, rfl⟩
  have hobs : obC [plnO "a".toUTF8 ca cc (code.take k) p, plnO "b".toUTF8 cb (cc - k) (code.drop k) q] = [.string "a".toUTF8, .slice ca k cc, .int .i64 p, .slice none 0 0, .slice none 0 0, .slice none 0 0, .string "b".toUTF8, .slice (if cc = k then ca else ca.map (·.add (k * 5))) (code.length - k) (cc - k), .int .i64 q, .slice none 0 0, .slice none 0 0, .slice none 0 0] := by
    simp [obC, obV, plnO, Nat.min_eq_left hkl, hcb]
  have hok1 : ∀ o ∈ [plnO "a".toUTF8 ca cc (code.take k) p, plnO "b".toUTF8 cb (cc - k) (code.drop k) q], OkOb o := fun o ho => by
    simp only [List.mem_cons, List.not_mem_nil, or_false] at ho
    rcases ho with rfl | rfl
    · exact okPln szA (by simp; omega)
    · exact okPln szB (by simp; omega)
  have hok2 : ∀ o ∈ [plnO "a".toUTF8 ca cc code (p + q)], OkOb o := fun o ho => by
    simp only [List.mem_singleton] at ho
    subst ho
    exact okPln szA (by omega)
  have hil := insC_len code
  have t1 : Prov [rng ca (insC code)] (rng ca (insC (code.take k))) := by rw [← insC_take]; exact rng_take _
  have t2 : Prov [rng ca (insC code)] (rng cb (insC (code.drop k))) := by rw [← insC_drop _ _ hkl, hcb]; exact prov_tailG (n := code.length) k (by rw [hil]) hcc
  have hsee : ∀ {R : List Chunk} {j : Nat}, nthC R j = some (rng ca (insC code)) → ∀ o ∈ [plnO "a".toUTF8 ca cc (code.take k) p, plnO "b".toUTF8 cb (cc - k) (code.drop k) q], ∀ c ∈ obS o, Prov R c := fun hj o ho c hc => by
    simp only [List.mem_cons, List.not_mem_nil, or_false] at ho
    rcases ho with rfl | rfl
    · simp only [obS, plnO, List.mem_cons, List.not_mem_nil, or_false] at hc
      rcases hc with rfl | rfl | rfl | rfl
      · exact t1.one (prov_mem (nthC_mem hj))
      · exact rng_nil
      · exact rng_nil
      · exact rng_nil
    · simp only [obS, plnO, List.mem_cons, List.not_mem_nil, or_false] at hc
      rcases hc with rfl | rfl | rfl | rfl
      · exact t2.one (prov_mem (nthC_mem hj))
      · exact rng_nil
      · exact rng_nil
      · exact rng_nil
  have hsee2 : ∀ {R : List Chunk} {j : Nat}, nthC R j = some (rng ca (insC code)) → ∀ o ∈ [plnO "a".toUTF8 ca cc code (p + q)], ∀ c ∈ obS o, Prov R c := fun hj o ho c hc => by
    simp only [List.mem_singleton] at ho
    subst ho
    simp only [obS, plnO, List.mem_cons, List.not_mem_nil, or_false] at hc
    rcases hc with rfl | rfl | rfl | rfl
    · exact prov_mem (nthC_mem hj)
    · exact rng_nil
    · exact rng_nil
    · exact rng_nil
  have hres := link_parts nmA nmB nmAB (code := code) (k := k) (by omega) hp' hq' ca cb ca cc (cc - k) cc
  have c1 : ∀ b42, FnC Try.prog 11 [.slice (some ⟨b42, 0, none⟩) 2 2, .int .i64 600] [] [rng (some ⟨b42, 0, none⟩) [.string "a".toUTF8, .slice ca k cc, .int .i64 p, .slice none 0 0, .slice none 0 0, .slice none 0 0, .string "b".toUTF8, .slice (if cc = k then ca else ca.map (·.add (k * 5))) (code.length - k) (cc - k), .int .i64 q, .slice none 0 0, .slice none 0 0, .slice none 0 0], seeO [plnO "a".toUTF8 ca cc (code.take k) p, plnO "b".toUTF8 cb (cc - k) (code.drop k) q]] _ _ _ := fun b42 => by
    have := linkC (some ⟨b42, 0, none⟩) 2 [plnO "a".toUTF8 ca cc (code.take k) p, plnO "b".toUTF8 cb (cc - k) (code.drop k) q] 600 (Nat.le_of_ble_eq_true rfl) hok1
    rw [hobs] at this
    exact this
  refine dx [0, 1, 2, 3, 4, 5, 6, 7, 8, 9, 999] [] [] ?_
  refine rr ?_
  refine tw (Hs := []) (i := 10) (j := 15) [999] [10, 11, 12, 13, 14, 16, 17] ?_ ?_
  · refine rr ?_
    intro b42 _
    refine rr ?_
    refine tw (Hs := []) (i := 11) (j := 15) [12, 13, 14, 15, 16, 17] [11, 12, 13, 14, 16, 17] ?_ ?_
    · refine clp (c1 b42) ?_ (hl := lend_blk (by repeat (first | exact find_here | apply find_there)) (lend_see (hsee (by repeat (first | exact find_here | apply find_there))) trivial))
      rintro ⟨xa, xc⟩ _
      try simp only [List.cons_append, List.nil_append, List.append_nil]
      unfold linkV
      refine rr ?_
      intro b12 _
      refine rr ?_
      refine rr ?_
      intro b52 _
      refine rr ?_
      have c2 := linkC (some ⟨b52, 0, none⟩) 1 [plnO "a".toUTF8 ca cc code (p + q)] 600 (Nat.le_of_ble_eq_true rfl) hok2
      refine cl c2 ?_ (hl := lend_blk (by repeat (first | exact find_here | apply find_there)) (lend_see (hsee2 (by repeat (first | exact find_here | apply find_there))) trivial))
      rintro ⟨ya, yc⟩ _
      try simp only [List.cons_append, List.nil_append, List.append_nil]
      unfold linkV
      rcases hres with ⟨h1, h3, h4⟩ | ⟨h3, h4⟩
      · rw [h3, h4]
        refine rr ?_
        intro b14 _
        refine rr ?_
        refine cl (awakeC) ?_
        intro _ _
        try simp only [List.cons_append, List.nil_append, List.append_nil]
        refine rr ?_
        exact en () trivial
      · rw [h3, h4]
        refine rr ?_
        intro b14 _
        refine rr ?_
        have hC : code.length ≤ 8796093021952 := by omega
        refine cl (sameC xa ca xc cc code code hC hC) ?_
        intro _ _
        try simp only [List.cons_append, List.nil_append, List.append_nil]
        refine rr ?_
        refine cl (awakeC) ?_
        intro _ _
        try simp only [List.cons_append, List.nil_append, List.append_nil]
        refine rr ?_
        exact en () trivial
    · refine rr ?_
      intro b12 _
      refine rr ?_
      refine cld (c1 b42) ?_ (hl := lend_blk (by repeat (first | exact find_here | apply find_there)) (lend_see (hsee (by repeat (first | exact find_here | apply find_there))) trivial))
      rintro ⟨xa, xc⟩ _
      try simp only [List.cons_append, List.nil_append, List.append_nil]
      unfold linkV
      refine rr ?_
      refine rr ?_
      intro b52 _
      refine rr ?_
      have c2 := linkC (some ⟨b52, 0, none⟩) 1 [plnO "a".toUTF8 ca cc code (p + q)] 600 (Nat.le_of_ble_eq_true rfl) hok2
      refine cl c2 ?_ (hl := lend_blk (by repeat (first | exact find_here | apply find_there)) (lend_see (hsee2 (by repeat (first | exact find_here | apply find_there))) trivial))
      rintro ⟨ya, yc⟩ _
      try simp only [List.cons_append, List.nil_append, List.append_nil]
      unfold linkV
      rcases hres with ⟨h1, h3, h4⟩ | ⟨h3, h4⟩
      · rw [h3, h4]
        refine rr ?_
        intro b14 _
        refine rr ?_
        refine cl (awakeC) ?_
        intro _ _
        try simp only [List.cons_append, List.nil_append, List.append_nil]
        refine rr ?_
        exact en () trivial
      · rw [h3, h4]
        refine rr ?_
        intro b14 _
        refine rr ?_
        have hC : code.length ≤ 8796093021952 := by omega
        refine cl (sameC xa ca xc cc code code hC hC) ?_
        intro _ _
        try simp only [List.cons_append, List.nil_append, List.append_nil]
        refine rr ?_
        refine cl (awakeC) ?_
        intro _ _
        try simp only [List.cons_append, List.nil_append, List.append_nil]
        refine rr ?_
        exact en () trivial
  · refine rr ?_
    intro b12 _
    refine rr ?_
    intro b42 _
    refine rr ?_
    refine cld (c1 b42) ?_ (hl := lend_blk (by repeat (first | exact find_here | apply find_there)) (lend_see (hsee (by repeat (first | exact find_here | apply find_there))) trivial))
    rintro ⟨xa, xc⟩ _
    try simp only [List.cons_append, List.nil_append, List.append_nil]
    unfold linkV
    refine rr ?_
    refine rr ?_
    intro b52 _
    refine rr ?_
    have c2 := linkC (some ⟨b52, 0, none⟩) 1 [plnO "a".toUTF8 ca cc code (p + q)] 600 (Nat.le_of_ble_eq_true rfl) hok2
    refine cl c2 ?_ (hl := lend_blk (by repeat (first | exact find_here | apply find_there)) (lend_see (hsee2 (by repeat (first | exact find_here | apply find_there))) trivial))
    rintro ⟨ya, yc⟩ _
    try simp only [List.cons_append, List.nil_append, List.append_nil]
    unfold linkV
    rcases hres with ⟨h1, h3, h4⟩ | ⟨h3, h4⟩
    · rw [h3, h4]
      refine rr ?_
      intro b14 _
      refine rr ?_
      refine cl (awakeC) ?_
      intro _ _
      try simp only [List.cons_append, List.nil_append, List.append_nil]
      refine rr ?_
      exact en () trivial
    · rw [h3, h4]
      refine rr ?_
      intro b14 _
      refine rr ?_
      have hC : code.length ≤ 8796093021952 := by omega
      refine cl (sameC xa ca xc cc code code hC hC) ?_
      intro _ _
      try simp only [List.cons_append, List.nil_append, List.append_nil]
      refine rr ?_
      refine cl (awakeC) ?_
      intro _ _
      try simp only [List.cons_append, List.nil_append, List.append_nil]
      refine rr ?_
      exact en () trivial
end Go.Proofs.Ytmaepdebbijkiaa

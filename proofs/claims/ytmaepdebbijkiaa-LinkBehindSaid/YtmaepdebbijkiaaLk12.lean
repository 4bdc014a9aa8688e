/- What link answers: plain laws. -/
import Derived.Test.YtmaepdebbijkiaaLk10
namespace Go.Proofs.Ytmaepdebbijkiaa
open Go Go.Sx Go.Sx.Chunk
set_option linter.unusedVariables false
set_option linter.unusedSimpArgs false

/-- May it be tried at all? -/
def goL (l : List Ob) (mem : Int) : Prop := l.length ≠ 0 ∧ 0 ≤ mem ∧ mem ≤ 32000 ∧ ∀ o ∈ l, goodO o = true
theorem goL_any (l : List Ob) : (∀ o ∈ l, goodO o = true) ↔ l.any (fun o => !goodO o) = false := by
  rw [List.any_eq_false]
  exact ⟨fun h o ho => by simp [h o ho], fun h o ho => by simpa using h o ho⟩
theorem linkF_bad {l : List Ob} {mem : Int} (h : ¬ goL l mem) : linkF l mem = ([], 0, 1) := by
  unfold linkF
  rw [if_pos]
  unfold goL at h
  rw [goL_any] at h
  by_cases h1 : l.length = 0
  · exact .inl h1
  · by_cases h2 : mem < 0
    · exact .inr (.inl h2)
    · by_cases h3 : 32000 < mem
      · exact .inr (.inr (.inl h3))
      · refine .inr (.inr (.inr ?_))
        cases h4 : l.any (fun o => !goodO o) with
        | true => rfl
        | false => exact absurd ⟨h1, by omega, by omega, h4⟩ h
theorem linkF_go {l : List Ob} {mem : Int} (h : goL l mem) : linkF l mem = match namesF [] [] 0 l with
    | none => ([], 0, 6)
    | some syms => if 4096 < (codeF l).length ∨ mem < dataF l then ([], 0, 4)
      else if (objsF syms (dataF l) mem (codeF l) ((baseK l l.length).zip l)).1 = 0 then ((objsF syms (dataF l) mem (codeF l) ((baseK l l.length).zip l)).2, dataF l, 0) else ([], 0, (objsF syms (dataF l) mem (codeF l) ((baseK l l.length).zip l)).1) := by
  unfold linkF
  obtain ⟨h1, h2, h3, h4⟩ := h
  rw [goL_any] at h4
  rw [if_neg (by
    rintro (h | h | h | h)
    · exact h1 h
    · omega
    · omega
    · rw [h4] at h; cases h)]
  rfl
theorem patchF_err (code : List In) (b : Ba) (syms : List Sym) (all mem : Int) (imps : List ByteArray) (p : Pa) : (patchF code b syms all mem imps p).1 = 0 ∨ (patchF code b syms all mem imps p).1 = 3 ∨ (patchF code b syms all mem imps p).1 = 5 := by
  unfold patchF
  dsimp only
  split
  · exact .inr (.inr rfl)
  · split
    · exact .inl rfl
    · exact .inr (.inl rfl)
theorem patsF_err (b : Ba) (syms : List Sym) (all mem : Int) (imps : List ByteArray) : ∀ (ps : List Pa) (code : List In), (patsF b syms all mem imps code ps).1 = 0 ∨ (patsF b syms all mem imps code ps).1 = 3 ∨ (patsF b syms all mem imps code ps).1 = 5
  | [], code => .inl rfl
  | p :: ps, code => by
    rw [patsF_cons]
    split
    · exact patsF_err b syms all mem imps ps _
    · exact patchF_err ..
theorem objsF_err (syms : List Sym) (all mem : Int) : ∀ (zs : List (Ba × Ob)) (code : List In), (objsF syms all mem code zs).1 = 0 ∨ (objsF syms all mem code zs).1 = 3 ∨ (objsF syms all mem code zs).1 = 5
  | [], code => .inl rfl
  | z :: zs, code => by
    rw [objsF_cons]
    split
    · exact objsF_err syms all mem zs _
    · exact patsF_err ..
/-- When it answers, with what. -/
theorem linkF_ok {l : List Ob} {mem : Int} (h : (linkF l mem).2.2 = 0) : goL l mem ∧ ∃ syms, namesF [] [] 0 l = some syms ∧ (codeF l).length ≤ 4096 ∧ dataF l ≤ mem ∧
    (objsF syms (dataF l) mem (codeF l) ((baseK l l.length).zip l)).1 = 0 ∧ linkF l mem = ((objsF syms (dataF l) mem (codeF l) ((baseK l l.length).zip l)).2, dataF l, 0) := by
  by_cases hg : goL l mem
  · refine ⟨hg, ?_⟩
    have e := linkF_go hg
    rw [e] at h ⊢
    cases hn : namesF [] [] 0 l with
    | none => rw [hn] at h; simp at h
    | some syms =>
      rw [hn] at h
      dsimp only at h ⊢
      by_cases hc : 4096 < (codeF l).length ∨ mem < dataF l
      · rw [if_pos hc] at h; simp at h
      · rw [if_neg hc] at h ⊢
        by_cases h0 : (objsF syms (dataF l) mem (codeF l) ((baseK l l.length).zip l)).1 = 0
        · exact ⟨syms, rfl, by omega, by omega, h0, by rw [if_pos h0]⟩
        · rw [if_neg h0] at h; exact absurd h h0
  · rw [linkF_bad hg] at h; exact absurd h (by decide)
theorem linkF_err0 {l : List Ob} {mem : Int} (h : (linkF l mem).2.2 ≠ 0) : (linkF l mem).1 = [] ∧ (linkF l mem).2.1 = 0 := by
  by_cases hg : goL l mem
  · have e := linkF_go hg
    rw [e] at h ⊢
    cases hn : namesF [] [] 0 l with
    | none => exact ⟨rfl, rfl⟩
    | some syms =>
      rw [hn] at h
      dsimp only at h ⊢
      split
      · exact ⟨rfl, rfl⟩
      · rename_i hc
        rw [if_neg hc] at h
        split
        · rename_i h0
          rw [if_pos h0] at h; exact absurd rfl h
        · exact ⟨rfl, rfl⟩
  · rw [linkF_bad hg]; exact ⟨rfl, rfl⟩

/-! ### One object without patches -/
theorem inL_sym (v : ByteArray) : ∀ s : List Sym, inL v (s.map Prod.fst) = (symF v s).isSome
  | [] => rfl
  | a :: s => by
    have ih := inL_sym v s
    simp only [inL, List.map_cons, List.any_cons, symF] at ih ⊢
    by_cases h : a.1 = v
    · simp [h]
    · simp [h, ih]
theorem chk_dist (m : Int) : ∀ (l : List Sy) (s : List Sym), chkL (s.map Prod.fst) (l.map Sy.name) = true → distF s (l.map fun x => (x.name, m + x.pl)) = true
  | [], s, _ => rfl
  | x :: l, s, h => by
    simp only [List.map_cons, chkL, Bool.and_eq_true, Bool.not_eq_true'] at h
    obtain ⟨_, h2, h3⟩ := h
    rw [inL_sym] at h2
    simp only [List.map_cons, distF, Bool.and_eq_true]
    refine ⟨by cases hs : symF x.name s <;> simp_all, chk_dist m l _ ?_⟩
    simpa using h3
theorem goodO_dist {o : Ob} (h : goodO o = true) (m : Int) : distF [] (symsO m o) = true := chk_dist m o.exps [] ((goodO_parts o).1 h).2.2.2.2.2.2.1.1
theorem linkF_one {o : Ob} {mem : Int} (hp : o.pats = []) (hg : goL [o] mem) : linkF [o] mem = if mem < o.data then ([], 0, 4) else (o.code, o.data, 0) := by
  · rw [linkF_go hg]
    have hgo := hg.2.2.2 o (by simp)
    have hn : namesF [] [] 0 [o] = some (symsF 0 [o]) := by
      rw [namesF_eq, if_pos]
      · rfl
      · simp only [chkN, symsF, List.append_nil, goodO_dist hgo]
        rfl
    rw [hn]
    dsimp only
    have hc : codeF [o] = o.code := by simp [codeF]
    have hd : dataF [o] = o.data := by simp [dataF]
    have hl := ((goodO_parts o).1 hgo).2.2.1
    rw [hc, hd]
    by_cases hm : mem < o.data
    · rw [if_pos (.inr hm), if_pos hm]
    · rw [if_neg (by omega), if_neg hm]
      have ho : objsF (symsF 0 [o]) o.data mem o.code ((baseK [o] [o].length).zip [o]) = (0, o.code) := by
        show objsF _ _ _ _ [((atF [o] 0, dataF ([o].take 0)), o)] = _
        rw [objsF_cons, hp]
        rfl
      rw [ho]
      rfl

/-! ### Patches turn numbers alone -/
def opsI (i : In) : Int × Int × Int × Int := (i.op, i.a, i.b, i.c)
theorem map_set_same {α β : Type} {f : α → β} {l : List α} {k : Nat} {a b : α} (h : l[k]? = some a) (hf : f b = f a) : (l.set k b).map f = l.map f := by
  rw [List.map_set, hf]
  apply List.ext_getElem?
  intro i
  rw [List.getElem?_set]
  split
  · rename_i hi
    subst hi
    obtain ⟨hlt, _⟩ := List.getElem?_eq_some_iff.1 h
    rw [if_pos (by simpa using hlt), List.getElem?_map, h]; rfl
  · rfl
theorem patchF_ops {code : List In} {b : Ba} {syms : List Sym} {all mem : Int} {imps : List ByteArray} {p : Pa} : (patchF code b syms all mem imps p).2.map opsI = code.map opsI := by
  unfold patchF
  dsimp only
  split
  · rfl
  · split
    · rename_i n _ _
      cases hc : code[b.1 + p.pl.toNat]? with
      | none =>
        rw [List.set_eq_of_length_le (by simpa using hc)]
      | some e =>
        have hg : code.getD (b.1 + p.pl.toNat) inD = e := by simp [hc]
        rw [hg]
        exact map_set_same hc rfl
    · rfl
theorem patsF_ops {b : Ba} {syms : List Sym} {all mem : Int} {imps : List ByteArray} : ∀ {ps : List Pa} {code : List In}, (patsF b syms all mem imps code ps).2.map opsI = code.map opsI
  | [], code => rfl
  | p :: ps, code => by
    rw [patsF_cons]
    split
    · rw [patsF_ops, patchF_ops]
    · exact patchF_ops
theorem objsF_ops {syms : List Sym} {all mem : Int} : ∀ {zs : List (Ba × Ob)} {code : List In}, (objsF syms all mem code zs).2.map opsI = code.map opsI
  | [], code => rfl
  | z :: zs, code => by
    rw [objsF_cons]
    split
    · rw [objsF_ops, patsF_ops]
    · exact patsF_ops
theorem linkF_ops {l : List Ob} {mem : Int} (h : (linkF l mem).2.2 = 0) : (linkF l mem).1.map opsI = (codeF l).map opsI := by
  obtain ⟨_, syms, _, _, _, _, he⟩ := linkF_ok h
  rw [he]
  exact objsF_ops
theorem linkF_len0 {l : List Ob} {mem : Int} (h : (linkF l mem).2.2 = 0) : (linkF l mem).1.length = (codeF l).length := by
  have := congrArg List.length (linkF_ops h)
  simpa using this
theorem linkF_data {l : List Ob} {mem : Int} (h : (linkF l mem).2.2 = 0) : (linkF l mem).2.1 = dataF l := by
  obtain ⟨_, syms, _, _, _, _, he⟩ := linkF_ok h
  rw [he]

/-! ### Two objects, the other way round -/
theorem symsO_cnt (v : ByteArray) (m n : Int) (o : Ob) : cntF v (symsO m o) = cntF v (symsO n o) := by
  unfold symsO
  induction o.exps with
  | nil => rfl
  | cons x l ih => simp only [List.map_cons, cntF, ih]
theorem dist_iff (l : List Sym) : distF [] l = true ↔ ∀ v, cntF v l ≤ 1 := by
  constructor
  · intro h v
    have := dist_le h (fun v => by simp [cntF]) v
    simpa using this
  · intro h
    cases hd : distF [] l with
    | true => rfl
    | false =>
      obtain ⟨x, _, hx⟩ := dist_gt hd
      have := h x.1
      simp at hx
      omega
theorem names_turned (a b : Ob) : (namesF [] [] 0 [a, b]).isSome = (namesF [] [] 0 [b, a]).isSome := by
  have h1 : chkN [] [a, b] = chkN [] [b, a] := by
    simp only [chkN, inL, List.nil_append, List.any_nil, List.any_cons, Bool.not_false, Bool.true_and, Bool.or_false, Bool.and_true]
    congr 1
    rw [decide_eq_decide]
    exact ⟨fun h => h.symm, fun h => h.symm⟩
  have h2 : distF [] (symsF 0 [a, b]) = distF [] (symsF 0 [b, a]) := by
    rw [Bool.eq_iff_iff, dist_iff, dist_iff]
    simp only [symsF, List.append_nil, cntF_app]
    constructor
    · intro h v
      have := h v
      rw [symsO_cnt v 0 (0 + b.code.length) a, symsO_cnt v _ 0 b] at this
      rw [symsO_cnt v _ (0 + b.code.length) a]
      omega
    · intro h v
      have := h v
      rw [symsO_cnt v 0 (0 + a.code.length) b, symsO_cnt v _ 0 a] at this
      rw [symsO_cnt v _ (0 + a.code.length) b]
      omega
  rw [namesF_eq, namesF_eq, h1, h2]
  split <;> rfl
theorem goL_turned {a b : Ob} {mem : Int} : goL [a, b] mem ↔ goL [b, a] mem := by
  unfold goL
  simp only [List.mem_cons, List.not_mem_nil, or_false, forall_eq_or_imp, forall_eq, List.length_cons, List.length_nil]
  constructor <;> rintro ⟨h1, h2, h3, h4, h5⟩ <;> exact ⟨by omega, h2, h3, h5, h4⟩
theorem len_turned (a b : Ob) : (codeF [a, b]).length = a.code.length + b.code.length := by simp [codeF]
theorem data_turned (a b : Ob) : dataF [a, b] = a.data + b.data := by simp [dataF]
/-- The errors 1, 6, 4 are those of both. -/
theorem err_turned (a b : Ob) (mem : Int) : (((linkF [a, b] mem).2.2 = 1) ↔ ((linkF [b, a] mem).2.2 = 1)) ∧ (((linkF [a, b] mem).2.2 = 6) ↔ ((linkF [b, a] mem).2.2 = 6)) ∧ (((linkF [a, b] mem).2.2 = 4) ↔ ((linkF [b, a] mem).2.2 = 4)) := by
  by_cases hg : goL [a, b] mem
  · have hg' := goL_turned.1 hg
    rw [linkF_go hg, linkF_go hg']
    have hn := names_turned a b
    cases h1 : namesF [] [] 0 [a, b] with
    | none =>
      rw [h1] at hn
      cases h2 : namesF [] [] 0 [b, a] with
      | none => simp
      | some s => rw [h2] at hn; cases hn
    | some s1 =>
      rw [h1] at hn
      cases h2 : namesF [] [] 0 [b, a] with
      | none => rw [h2] at hn; cases hn
      | some s2 =>
        dsimp only
        rw [len_turned, len_turned, data_turned, data_turned]
        by_cases hc : 4096 < a.code.length + b.code.length ∨ mem < a.data + b.data
        · rw [if_pos hc, if_pos (by omega)]
          simp
        · rw [if_neg hc, if_neg (show ¬ (4096 < b.code.length + a.code.length ∨ mem < b.data + a.data) by omega)]
          have e1 := objsF_err s1 (a.data + b.data) mem ((baseK [a, b] [a, b].length).zip [a, b]) (codeF [a, b])
          have e2 := objsF_err s2 (b.data + a.data) mem ((baseK [b, a] [b, a].length).zip [b, a]) (codeF [b, a])
          generalize objsF s1 (a.data + b.data) mem (codeF [a, b]) ((baseK [a, b] [a, b].length).zip [a, b]) = r1 at e1 ⊢
          generalize objsF s2 (b.data + a.data) mem (codeF [b, a]) ((baseK [b, a] [b, a].length).zip [b, a]) = r2 at e2 ⊢
          rcases e1 with e1 | e1 | e1 <;> rcases e2 with e2 | e2 | e2 <;> simp [e1, e2]
  · rw [linkF_bad hg, linkF_bad (fun h => hg (goL_turned.2 h))]
    simp

/-! ### An object behind others -/
def behO (ca : Option Addr) (cc : Nat) (code : List In) : Ob := ⟨"behind".toUTF8, ca, cc, code, 0, none, 0, [], none, 0, [], none, 0, []⟩
theorem namesF_app : ∀ (l : List Ob) (o : Ob) (seen : List ByteArray) (s : List Sym) (m : Int), o.exps = [] → namesF seen s m (l ++ [o]) = match namesF seen s m l with
    | none => none
    | some s' => if inL o.name (seen ++ l.map Ob.name) then none else some s'
  | [], o, seen, s, m, h => by
    simp only [List.nil_append, namesF, h, expsF, List.map_nil, List.append_nil]
  | x :: l, o, seen, s, m, h => by
    simp only [List.cons_append, namesF]
    cases inL x.name seen with
    | true => rfl
    | false =>
      simp only [if_false, Bool.false_eq_true]
      cases expsF m s x.exps with
      | none => rfl
      | some s' =>
        simp only [namesF_app l o _ s' _ h, List.map_cons, List.append_assoc, List.singleton_append]
theorem getD_app {α : Type} {c d : List α} {k : Nat} {z : α} (h : k < c.length) : (c ++ d).getD k z = c.getD k z := by
  simp [List.getElem?_append_left h]
theorem patchF_app {c d : List In} {b : Ba} {syms : List Sym} {all mem : Int} {imps : List ByteArray} {p : Pa} (h : b.1 + p.pl.toNat < c.length) : patchF (c ++ d) b syms all mem imps p = ((patchF c b syms all mem imps p).1, (patchF c b syms all mem imps p).2 ++ d) := by
  unfold patchF
  dsimp only
  rw [getD_app h]
  split
  · rfl
  · split
    · rw [List.set_append_left _ _ h]
    · rfl
theorem patsF_app {b : Ba} {syms : List Sym} {all mem : Int} {imps : List ByteArray} {d : List In} : ∀ {ps : List Pa} {c : List In}, (∀ p ∈ ps, b.1 + p.pl.toNat < c.length) → patsF b syms all mem imps (c ++ d) ps = ((patsF b syms all mem imps c ps).1, (patsF b syms all mem imps c ps).2 ++ d)
  | [], c, _ => rfl
  | p :: ps, c, h => by
    have h1 := h p (by simp)
    rw [patsF_cons, patsF_cons, patchF_app h1]
    dsimp only
    split
    · rw [patsF_app (fun q hq => by rw [patchF_len]; exact h q (by simp [hq]))]
    · rfl
theorem patsF_len {b : Ba} {syms : List Sym} {all mem : Int} {imps : List ByteArray} {ps : List Pa} {c : List In} : (patsF b syms all mem imps c ps).2.length = c.length := by
  have := congrArg List.length (patsF_ops (b := b) (syms := syms) (all := all) (mem := mem) (imps := imps) (ps := ps) (code := c))
  simpa using this
theorem objsF_app {syms : List Sym} {all mem : Int} {d : List In} : ∀ {zs : List (Ba × Ob)} {c : List In}, (∀ z ∈ zs, ∀ p ∈ z.2.pats, z.1.1 + p.pl.toNat < c.length) → objsF syms all mem (c ++ d) zs = ((objsF syms all mem c zs).1, (objsF syms all mem c zs).2 ++ d)
  | [], c, _ => rfl
  | z :: zs, c, h => by
    rw [objsF_cons, objsF_cons, patsF_app (h z (by simp))]
    dsimp only
    split
    · rw [objsF_app (fun y hy => by rw [patsF_len]; exact h y (by simp [hy]))]
    · rfl
theorem objsF_snoc {syms : List Sym} {all mem : Int} {y : Ba × Ob} (hy : y.2.pats = []) : ∀ {zs : List (Ba × Ob)} {c : List In}, objsF syms all mem c (zs ++ [y]) = objsF syms all mem c zs
  | [], c => by
    rw [List.nil_append, objsF_cons, hy]
    rfl
  | z :: zs, c => by
    rw [List.cons_append, objsF_cons, objsF_cons, objsF_snoc hy]
theorem zip_base {l : List Ob} {z : Ba × Ob} (h : z ∈ (baseK l l.length).zip l) : ∃ k o, l[k]? = some o ∧ z = ((atF l k, dataF (l.take k)), o) := by
  obtain ⟨k, hk⟩ := List.mem_iff_getElem?.1 h
  rw [List.getElem?_zip_eq_some] at hk
  obtain ⟨h1, h2⟩ := hk
  refine ⟨k, z.2, h2, ?_⟩
  have hlt := (List.getElem?_eq_some_iff.1 h2).1
  simp [baseK, hlt] at h1
  rw [h1]
theorem atF_in2 {l : List Ob} {k : Nat} {o : Ob} (h : l[k]? = some o) : atF l k + o.code.length ≤ (codeF l).length := by
  have h1 : atF l (k + 1) ≤ (codeF l).length := by
    rw [← codeF_take]
    have : codeF l = codeF (l.take (k + 1)) ++ codeF (l.drop (k + 1)) := by
      unfold codeF
      rw [← List.flatMap_append, List.take_append_drop]
    rw [this, List.length_append]
    omega
  rw [atF_step h] at h1
  exact h1
theorem base_app (l : List Ob) (o : Ob) : (baseK (l ++ [o]) (l ++ [o]).length).zip (l ++ [o]) = (baseK l l.length).zip l ++ [((atF (l ++ [o]) l.length, dataF ((l ++ [o]).take l.length)), o)] := by
  have h1 : baseK (l ++ [o]) (l ++ [o]).length = baseK l l.length ++ [(atF (l ++ [o]) l.length, dataF ((l ++ [o]).take l.length))] := by
    rw [List.length_append, List.length_singleton, baseK_step]
    congr 1
    unfold baseK
    refine List.map_congr_left fun i hi => ?_
    have hi' : i < l.length := by simpa using hi
    unfold atF
    rw [List.take_append_of_le_length (by omega)]
  rw [h1, List.zip_append (by simp [baseK])]
  rfl
theorem link_behind {l : List Ob} {o : Ob} {mem : Int} (he : o.exps = []) (hd : o.data = 0) (hp : o.pats = []) (hl : l ≠ []) (h : (linkF (l ++ [o]) mem).2.2 = 0) :
    (linkF l mem).2.2 = 0 ∧ (linkF (l ++ [o]) mem).1 = (linkF l mem).1 ++ o.code ∧ (linkF (l ++ [o]) mem).2.1 = (linkF l mem).2.1 := by
  obtain ⟨hg, syms, hn, hc, hdm, h0, hr⟩ := linkF_ok h
  have hgl : goL l mem := ⟨by simpa using hl, hg.2.1, hg.2.2.1, fun x hx => hg.2.2.2 x (by simp [hx])⟩
  have hcode : codeF (l ++ [o]) = codeF l ++ o.code := by simp [codeF]
  have hdata : dataF (l ++ [o]) = dataF l := by simp [dataF, hd]
  rw [namesF_app l o [] [] 0 he] at hn
  cases hn2 : namesF [] [] 0 l with
  | none => rw [hn2] at hn; cases hn
  | some s =>
    rw [hn2] at hn
    dsimp only at hn
    split at hn
    · cases hn
    simp only [Option.some.injEq] at hn
    subst hn
    rw [hcode, List.length_append] at hc
    rw [hdata] at hdm
    have happ : objsF s (dataF l) mem (codeF l ++ o.code) ((baseK l l.length).zip l) = ((objsF s (dataF l) mem (codeF l) ((baseK l l.length).zip l)).1, (objsF s (dataF l) mem (codeF l) ((baseK l l.length).zip l)).2 ++ o.code) := by
      refine objsF_app (fun z hz p hpz => ?_)
      obtain ⟨k, x, hx, rfl⟩ := zip_base hz
      have hm := List.mem_of_getElem? hx
      have hgp := ((goodO_parts x).1 (hgl.2.2.2 x hm)).2.2.2.2.2.2.2.2.2
      rw [List.any_eq_false] at hgp
      have hq := hgp p hpz
      have hq2 : ¬ goodP x.code.length x.imps.length p = false := by simpa using hq
      rw [goodP_parts] at hq2
      have := atF_in2 hx
      dsimp only
      omega
    rw [base_app, objsF_snoc (y := ((atF (l ++ [o]) l.length, dataF ((l ++ [o]).take l.length)), o)) hp, hcode, hdata, happ] at h0 hr
    dsimp only at h0 hr
    rw [hr]
    rw [linkF_go hgl, hn2]
    dsimp only
    rw [if_neg (by omega), if_pos h0]
    exact ⟨rfl, rfl, rfl⟩

/-! ### Code that is cut in two -/
def plnO (nm : ByteArray) (ca : Option Addr) (cc : Nat) (code : List In) (data : Int) : Ob := ⟨nm, ca, cc, code, data, none, 0, [], none, 0, [], none, 0, []⟩
theorem goodO_pln {nm : ByteArray} {ca : Option Addr} {cc : Nat} {code : List In} {data : Int} (hn : nameF nm = true) (hl : code.length ≤ 4096) (hd : 0 ≤ data ∧ data ≤ 32000) : goodO (plnO nm ca cc code data) = !code.any (fun i => !goodI i) := by
  unfold goodO plnO
  simp [hn, hl, hd, aloneF, chkL]
theorem link_parts {na nb : ByteArray} (hna : nameF na = true) (hnb : nameF nb = true) (hne : nb ≠ na) {code : List In} {k : Nat} (hl : code.length ≤ 200) {p q : Int} (hp : 0 ≤ p ∧ p ≤ 300) (hq : 0 ≤ q ∧ q ≤ 300) (c1 c2 c3 : Option Addr) (d1 d2 d3 : Nat) :
    (code.any (fun i => !goodI i) = true ∧ linkF [plnO na c1 d1 (code.take k) p, plnO nb c2 d2 (code.drop k) q] 600 = ([], 0, 1) ∧ linkF [plnO na c3 d3 code (p + q)] 600 = ([], 0, 1)) ∨
    (linkF [plnO na c1 d1 (code.take k) p, plnO nb c2 d2 (code.drop k) q] 600 = (code, p + q, 0) ∧ linkF [plnO na c3 d3 code (p + q)] 600 = (code, p + q, 0)) := by
  have g1 := goodO_pln (ca := c1) (cc := d1) (code := code.take k) (data := p) hna (by simp; omega) ⟨by omega, by omega⟩
  have g2 := goodO_pln (ca := c2) (cc := d2) (code := code.drop k) (data := q) hnb (by simp; omega) ⟨by omega, by omega⟩
  have g3 := goodO_pln (ca := c3) (cc := d3) (code := code) (data := p + q) hna (by omega) ⟨by omega, by omega⟩
  have hsplit : code.any (fun i => !goodI i) = ((code.take k).any (fun i => !goodI i) || (code.drop k).any (fun i => !goodI i)) := by
    rw [← List.any_append, List.take_append_drop]
  cases ha : code.any (fun i => !goodI i) with
  | true =>
    refine .inl ⟨rfl, linkF_bad (fun h => ?_), linkF_bad (fun h => ?_)⟩
    · have h1 := h.2.2.2 _ (List.mem_cons_self ..)
      have h2 := h.2.2.2 (plnO nb c2 d2 (code.drop k) q) (by simp)
      rw [g1] at h1
      rw [g2] at h2
      rw [ha] at hsplit
      simp only [Bool.not_eq_true'] at h1 h2
      rw [h1, h2] at hsplit
      cases hsplit
    · have h1 := h.2.2.2 _ (List.mem_cons_self ..)
      rw [g3, ha] at h1
      cases h1
  | false =>
    rw [ha] at hsplit g3
    have hs := hsplit.symm
    rw [Bool.or_eq_false_iff] at hs
    rw [hs.1] at g1
    rw [hs.2] at g2
    refine .inr ⟨?_, ?_⟩
    · have hg : goL [plnO na c1 d1 (code.take k) p, plnO nb c2 d2 (code.drop k) q] 600 := ⟨by simp, by decide, by decide, fun o ho => by
        simp only [List.mem_cons, List.not_mem_nil, or_false] at ho
        rcases ho with rfl | rfl
        · rw [g1]; rfl
        · rw [g2]; rfl⟩
      rw [linkF_go hg]
      have hn : namesF [] [] 0 [plnO na c1 d1 (code.take k) p, plnO nb c2 d2 (code.drop k) q] = some [] := by
        rw [namesF_eq]
        simp [chkN, plnO, inL, symsF, symsO, distF, Ne.symm hne]
      rw [hn]
      dsimp only
      have hc : codeF [plnO na c1 d1 (code.take k) p, plnO nb c2 d2 (code.drop k) q] = code := by simp [codeF, plnO]
      have hd : dataF [plnO na c1 d1 (code.take k) p, plnO nb c2 d2 (code.drop k) q] = p + q := by simp [dataF, plnO]
      rw [hc, hd, if_neg (by omega)]
      rfl
    · rw [linkF_one (by rfl) (show goL [plnO na c3 d3 code (p + q)] 600 from ⟨by simp, by decide, by decide, fun o ho => by simp only [List.mem_singleton] at ho; subst ho; rw [g3]; rfl⟩)]
      show (if (600 : Int) < p + q then _ else (code, p + q, 0)) = _
      rw [if_neg (by omega)]
end Go.Proofs.Ytmaepdebbijkiaa

/- Link: the walk. -/
import Derived.Test.YtmaepdebbijkiaaLk5
namespace Go.Proofs.Ytmaepdebbijkiaa
open Go Go.Sx Go.Sx.Chunk
set_option linter.unusedVariables false
set_option linter.unusedSimpArgs false

theorem atF_in {l : List Ob} {k : Nat} {o : Ob} (h : l[k]? = some o) : atF l k + o.code.length ≤ atF l l.length := by
  rw [← atF_step h]
  rw [← codeF_take, ← codeF_take, List.take_length]
  have : codeF l = codeF (l.take (k + 1)) ++ codeF (l.drop (k + 1)) := by
    unfold codeF
    rw [← List.flatMap_append, List.take_append_drop]
  rw [this, List.length_append]
  omega
theorem dataF_mono {l : List Ob} (h : ∀ o ∈ l, 0 ≤ o.data ∧ o.data ≤ 32000) (k : Nat) : dataF (l.take k) ≤ dataF l := by
  have h2 := (dataF_le (l := l.drop k) (fun o ho => h o (List.mem_of_mem_drop ho))).1
  have : dataF l = dataF (l.take k) + dataF (l.drop k) := by
    unfold dataF
    rw [← List.sum_append_int, ← List.map_append, List.take_append_drop]
  omega
theorem patsF_cons (b : Ba) (syms : List Sym) (all mem : Int) (imps : List ByteArray) (code : List In) (p : Pa) (l : List Pa) : patsF b syms all mem imps code (p :: l) = if (patchF code b syms all mem imps p).1 = 0 then patsF b syms all mem imps (patchF code b syms all mem imps p).2 l else patchF code b syms all mem imps p := rfl
theorem patsF_nil (b : Ba) (syms : List Sym) (all mem : Int) (imps : List ByteArray) (code : List In) : patsF b syms all mem imps code [] = (0, code) := rfl
theorem objsF_cons (syms : List Sym) (all mem : Int) (code : List In) (x : Ba × Ob) (l : List (Ba × Ob)) : objsF syms all mem code (x :: l) = if (patsF x.1 syms all mem x.2.imps code x.2.pats).1 = 0 then objsF syms all mem (patsF x.1 syms all mem x.2.imps code x.2.pats).2 l else patsF x.1 syms all mem x.2.imps code x.2.pats := rfl
theorem objsF_nil (syms : List Sym) (all mem : Int) (code : List In) : objsF syms all mem code [] = (0, code) := rfl
def linkV (r : List In × Int × Int) (x : Option Addr × Nat) : Value := .tuple #[.agg #[.slice x.1 r.1.length x.2, .int .i64 r.2.1], .int .i64 r.2.2]
set_option maxHeartbeats 16000000 in
theorem linkC (a : Option Addr) (c : Nat) (l : List Ob) (mem : Int) (hl : l.length ≤ 1000) (hok : ∀ o ∈ l, OkOb o) :
    FnC Try.prog 11 [.slice a l.length c, .int .i64 mem] [] [rng a (obC l), seeO l] (fun x : Option Addr × Nat => linkV (linkF l mem) x) (fun x => [row x.1 x.2 47 5 (linkF l mem).1.length (insC (linkF l mem).1)]) (fun _ => True) := by
  refine fn_intro Try.func11 Try.ntmps11 rfl rfl rfl (fun w0 => ?_)
  try simp only [List.cons_append, List.nil_append, List.append_nil]
  unfold linkV
  by_cases h1 : l.length = 0
  · have hf : linkF l mem = ([], 0, 1) := by unfold linkF; rw [if_pos (.inl h1)]
    rw [hf]
    refine rr ?_
    intro b4 _
    refine rr ?_
    refine w_turn (fun w hw => hw.row_nil 47 5) ?_
    exact we (none, 0) [0] trivial
  by_cases h2 : mem < 0
  · have hf : linkF l mem = ([], 0, 1) := by unfold linkF; rw [if_pos (.inr (.inl h2))]
    rw [hf]
    refine rr ?_
    intro b4 _
    refine rr ?_
    refine w_turn (fun w hw => hw.row_nil 47 5) ?_
    exact we (none, 0) [0] trivial
  by_cases h3 : 32000 < mem
  · have hf : linkF l mem = ([], 0, 1) := by unfold linkF; rw [if_pos (.inr (.inr (.inl h3)))]
    rw [hf]
    refine rr ?_
    intro b4 _
    refine rr ?_
    refine w_turn (fun w hw => hw.row_nil 47 5) ?_
    exact we (none, 0) [0] trivial
  refine rr ?_
  intro b4 _
  refine rr ?_
  refine ca [] (containsOC a c l (by omega) hok) ?_
  intro x hx
  try simp only [List.cons_append, List.nil_append, List.append_nil]
  cases h4 : l.any (fun o => !goodO o) with
  | true =>
    have hf : linkF l mem = ([], 0, 1) := by unfold linkF; rw [if_pos (.inr (.inr (.inr h4)))]
    rw [hf]
    refine rr ?_
    refine w_turn (fun w hw => hw.row_nil 47 5) ?_
    exact we (none, 0) [0] trivial
  | false =>
  have hgood : ∀ o ∈ l, goodO o = true := fun o ho => by
    rw [List.any_eq_false] at h4
    have := h4 o ho
    simpa using this
  have hcode : ∀ o ∈ l, o.code.length ≤ 4096 := fun o ho => ((goodO_parts o).1 (hgood o ho)).2.2.1
  have hdata : ∀ o ∈ l, 0 ≤ o.data ∧ o.data ≤ 32000 := fun o ho => ⟨((goodO_parts o).1 (hgood o ho)).2.2.2.2.1, ((goodO_parts o).1 (hgood o ho)).2.2.2.2.2.1⟩
  have hexps : ∀ o ∈ l, o.code.length ≤ 4096 ∧ ∀ x ∈ o.exps, 0 ≤ x.pl ∧ x.pl ≤ 4096 := fun o ho => ⟨hcode o ho, fun x hx => by
    have h5 := ((goodO_parts o).1 (hgood o ho)).1
    rw [List.all_eq_true] at h5
    have h6 := h5 x hx
    have h7 := hcode o ho
    simp only [goodE, Bool.and_eq_true, decide_eq_true_eq] at h6
    omega⟩
  refine rr ?_
  intro g _
  show Wd _ _ (mapC Value.string g (mMap []) :: _) _
  refine rr ?_
  intro j _
  refine rr ?_
  refine ca [0, 0] (namesC j g mem a c l hl hok hexps) ?_
  intro x hx
  try simp only [List.cons_append, List.nil_append, List.append_nil]
  have hcond : ¬ (l.length = 0 ∨ mem < 0 ∨ 32000 < mem ∨ l.any (fun o => !goodO o) = true) := by
    rintro (h | h | h | h)
    · exact h1 h
    · exact h2 h
    · exact h3 h
    · rw [h4] at h; cases h
  obtain ⟨sy, hsy⟩ : ∃ sy, sy = x := ⟨x, rfl⟩
  subst hsy
  cases h5 : namesF [] [] 0 l with
  | none =>
    have hf : linkF l mem = ([], 0, 6) := by unfold linkF; rw [if_neg hcond, h5]
    rw [hf]
    refine rr ?_
    refine w_turn (fun w hw => hw.row_nil 47 5) ?_
    exact we (none, 0) [0] trivial
  | some syms =>
  have hxs := hx syms h5
  clear hx
  subst hxs
  refine rr ?_
  refine ca [0] (joinC j g mem a c l hl hcode hdata) ?_
  intro x hx
  try simp only [List.cons_append, List.nil_append, List.append_nil]
  obtain ⟨ra, rc, ba, bc⟩ := x
  have hat := atF_le hcode l.length
  have hdt := dataF_le hdata
  have hl7 : ∀ k, dataF (l.take k) ≤ dataF l := dataF_mono hdata
  have hcl : (codeF l).length = atF l l.length := by have := codeF_take l l.length; rwa [List.take_length] at this
  unfold joH joC
  rw [List.take_length]
  dsimp only
  simp only [List.cons_append, List.nil_append]
  by_cases h6 : 4096 < atF l l.length
  · have hf : linkF l mem = ([], 0, 4) := by unfold linkF; rw [if_neg hcond, h5]; dsimp only; rw [if_pos (.inl (by omega))]
    rw [hf]
    refine rr ?_
    refine w_turn (fun w hw => hw.row_nil 47 5) ?_
    exact we (none, 0) [0] trivial
  by_cases h7 : mem < dataF l
  · have hf : linkF l mem = ([], 0, 4) := by unfold linkF; rw [if_neg hcond, h5]; dsimp only; rw [if_pos (.inr h7)]
    rw [hf]
    refine rr ?_
    refine w_turn (fun w hw => hw.row_nil 47 5) ?_
    exact we (none, 0) [0] trivial
  have hf : linkF l mem = if (objsF sy (dataF l) mem (codeF l) ((baseK l l.length).zip l)).1 = 0 then ((objsF sy (dataF l) mem (codeF l) ((baseK l l.length).zip l)).2, dataF l, 0) else ([], 0, (objsF sy (dataF l) mem (codeF l) ((baseK l l.length).zip l)).1) := by
    unfold linkF; rw [if_neg hcond, h5]; dsimp only; rw [if_neg (by omega)]
  have hz : ∀ k o, l[k]? = some o → ((baseK l l.length).zip l)[k]? = some ((atF l k, dataF (l.take k)), o) := fun k o h => by
    have hk := (List.getElem?_eq_some_iff.1 h).1
    rw [List.getElem?_zip_eq_some]
    refine ⟨?_, h⟩
    simp [baseK, hk]
  have hzl : ((baseK l l.length).zip l).length = l.length := by simp [baseK]
  generalize (baseK l l.length).zip l = z at hf hz hzl
  generalize hR : objsF sy (dataF l) mem (codeF l) z = R at hf
  have hgc0 : ∀ i ∈ codeF l, goodI i = true := fun i hi => by
    obtain ⟨o, ho, hi⟩ := List.mem_flatMap.1 hi
    have h8 := ((goodO_parts o).1 (hgood o ho)).2.2.2.1
    rw [List.any_eq_false] at h8
    have := h8 i hi
    simpa using this
  rw [hf]
  refine rr ?_
  refine w_loop (α := Nat × List In) (fun x => [(1, .int .i64 mem), (4, .pointer (some ⟨b4, 0, none⟩)), (6, .pointer (some ⟨j, 0, none⟩)), (57, .slice a l.length c), (58, .int .i64 (l.length : Int)), (59, .int .i64 (x.1 : Int))])
    (fun x => [blk j [.slice ra (atF l l.length) rc, .int .i64 (dataF l), .slice ba l.length bc, .map (some g), .int .i64 mem] 66, row ra rc 47 5 (atF l l.length) (insC x.2), row ba bc 71 2 l.length (baC (baseK l l.length)), mapC Value.string g (mMap sy), blk b4 [.slice none 0 0, .int .i64 0] 29, rng a (obC l), seeO l])
    (fun x => x.1 ≤ l.length ∧ x.2.length = atF l l.length ∧ (∀ i ∈ x.2, goodI i = true) ∧ R = objsF sy (dataF l) mem x.2 (z.drop x.1)) (fun x => l.length - x.1) (0, codeF l) ⟨rfl, rfl, rfl, rfl, rfl, rfl, trivial⟩ rfl ⟨Nat.zero_le _, hcl, hgc0, hR.symm⟩ ?_
  rintro ⟨k, code⟩ ⟨hk, hcn, hgc, hRk⟩ K1 hK1
  dsimp only at hk hcn hgc hRk ⊢
  by_cases hlt : k < l.length
  · obtain ⟨o, he⟩ := some_at hlt
    have hmem := List.mem_of_getElem? he
    have hzk := hz k o he
    have hdrop : z.drop k = ((atF l k, dataF (l.take k)), o) :: z.drop (k + 1) := by
      obtain ⟨hi, hb⟩ := List.getElem?_eq_some_iff.1 hzk
      rw [List.drop_eq_getElem_cons hi, hb]
    rw [hdrop] at hRk
    have hall : ((obC l).drop ((k : Int).toNat * 6)).take 6 = [.string o.name, .slice o.ca o.code.length o.cc, .int .i64 o.data, .slice o.ea o.exps.length o.ec, .slice o.ia o.imps.length o.ic, .slice o.pa o.pats.length o.pc] := obC_all he _ (by omega)
    have hlen := obC_len l
    refine rr ?_
    intro b8 _
    refine rr ?_
    refine w_turn (fun w hw => look_ob hw (c := rng o.pa (paC o.pats)) (k := 7) rfl hmem (by simp [obS]) rfl) ?_
    have hoe := hok o hmem
    have hpl := hoe.pats
    have hgp := ((goodO_parts o).1 (hgood o hmem)).2.2.2.2.2.2.2.2
    refine w_loop (α := Nat × List In) (fun x => [(1, .int .i64 mem), (4, .pointer (some ⟨b4, 0, none⟩)), (6, .pointer (some ⟨j, 0, none⟩)), (7, .int .i64 (k : Int)), (8, .pointer (some ⟨b8, 0, none⟩)), (57, .slice a l.length c), (58, .int .i64 (l.length : Int)), (59, .int .i64 (k : Int)), (65, .slice o.pa o.pats.length o.pc), (66, .int .i64 (o.pats.length : Int)), (67, .int .i64 (x.1 : Int))])
      (fun x => [rng o.pa (paC o.pats), blk b8 [.string o.name, .slice o.ca o.code.length o.cc, .int .i64 o.data, .slice o.ea o.exps.length o.ec, .slice o.ia o.imps.length o.ic, .slice o.pa o.pats.length o.pc] 41, blk j [.slice ra (atF l l.length) rc, .int .i64 (dataF l), .slice ba l.length bc, .map (some g), .int .i64 mem] 66, row ra rc 47 5 (atF l l.length) (insC x.2), row ba bc 71 2 l.length (baC (baseK l l.length)), mapC Value.string g (mMap sy), blk b4 [.slice none 0 0, .int .i64 0] 29, rng a (obC l), seeO l])
      (fun x => x.1 ≤ o.pats.length ∧ x.2.length = atF l l.length ∧ (∀ i ∈ x.2, goodI i = true) ∧ patsF (atF l k, dataF (l.take k)) sy (dataF l) mem o.imps code o.pats = patsF (atF l k, dataF (l.take k)) sy (dataF l) mem o.imps x.2 (o.pats.drop x.1)) (fun x => o.pats.length - x.1) (0, code) ⟨rfl, rfl, rfl, rfl, rfl, rfl, rfl, rfl, rfl, rfl, rfl, trivial⟩ rfl ⟨Nat.zero_le _, hcn, hgc, rfl⟩ ?_
    rintro ⟨i, code2⟩ ⟨hi, hcn2, hgc2, hPk⟩ K2 hK2
    dsimp only at hi hcn2 hgc2 hPk ⊢
    by_cases hil : i < o.pats.length
    · obtain ⟨p, hp⟩ := some_at hil
      have hpm := List.mem_of_getElem? hp
      have hall2 : ((paC o.pats).drop ((i : Int).toNat * 3)).take 3 = [.int .i64 p.pl, .int .i64 p.kind, .int .i64 p.n] := paC_all hp _ (by omega)
      have hpln := paC_len o.pats
      have hdp : o.pats.drop i = p :: o.pats.drop (i + 1) := by
        obtain ⟨hi', hb⟩ := List.getElem?_eq_some_iff.1 hp
        rw [List.drop_eq_getElem_cons hi', hb]
      rw [hdp] at hPk
      have hgp1 : goodP o.code.length o.imps.length p = true := by
        have := hgp.2
        rw [List.any_eq_false] at this
        have := this p hpm
        simpa using this
      refine rr ?_
      intro b10 _
      have hbk : (baseK l l.length)[k]? = some (atF l k, dataF (l.take k)) := by simp [baseK, hlt]
      have hbl : (baseK l l.length).length = l.length := by simp [baseK]
      have hbc := baC_len (baseK l l.length)
      have hall3 : ((baC (baseK l l.length)).drop ((k : Int).toNat * 2)).take 2 = [.int .i64 (atF l k : Int), .int .i64 (dataF (l.take k))] := by
        rw [show (k : Int).toNat * 2 = k * 2 by omega]
        exact flat_get (cells := baV) (sz := 2) (fun _ => rfl) hbk
      refine rr ?_
      have pc := patchC j g mem (dataF l) ra ba rc l.length bc code2 sy o (atF l k, dataF (l.take k)) p hoe hgp1 (by rw [hcn2]; exact atF_in he) (by omega) ⟨by omega, by omega⟩ ⟨by omega, by omega⟩ ⟨(dataF_le (fun o ho => hdata o (List.mem_of_mem_take ho))).1, Int.le_trans (hl7 k) (by omega)⟩ hgc2
      rw [hcn2] at pc
      refine dx [0, 1, 2, 3, 4, 5, 6, 7, 8, 9, 10, 11] [1, 5, 8, 9] [4] ?_
      refine rr ?_
      refine cld (pc) (hl := lend_prov rfl ((seeO_prov hmem (by simp [obS])).one (prov_mem (nthC_mem (i := 6) rfl))) trivial) ?_
      intro x hx
      try simp only [List.cons_append, List.nil_append, List.append_nil]
      generalize hpf : patchF code2 (atF l k, dataF (l.take k)) sy (dataF l) mem o.imps p = pf at hPk
      have hpl3 : pf.2.length = atF l l.length := by rw [← hpf, patchF_len, hcn2]
      by_cases hz0 : pf.1 = 0
      · refine rr ?_
        refine ro hK2 (i + 1, pf.2) ⟨by omega, hpl3, by rw [← hpf]; exact patchF_good hgc2, ?_⟩
        rw [hPk, patsF_cons, hpf, if_pos hz0]
      · have hR2 : R = pf := by
          rw [hRk]
          rw [objsF_cons]
          dsimp only
          rw [hPk, patsF_cons, hpf, if_neg hz0, if_neg hz0]
        rw [hR2, if_neg hz0]
        refine rr ?_
        refine w_turn (fun w hw => hw.row_nil 47 5) ?_
        exact en (none, 0) trivial
    · obtain rfl : i = o.pats.length := by omega
      rw [List.drop_length] at hPk
      refine rr ?_
      refine ro hK1 (k + 1, code2) ⟨by omega, hcn2, hgc2, ?_⟩
      rw [hRk, objsF_cons]
      dsimp only
      rw [hPk, patsF_nil, if_pos rfl]
  · obtain rfl : k = l.length := by omega
    rw [List.drop_of_length_le (by omega)] at hRk
    rw [objsF_nil] at hRk
    subst hRk
    rw [if_pos rfl]
    dsimp only
    rw [hcn]
    refine rr ?_
    exact en (ra, rc) trivial
end Go.Proofs.Ytmaepdebbijkiaa

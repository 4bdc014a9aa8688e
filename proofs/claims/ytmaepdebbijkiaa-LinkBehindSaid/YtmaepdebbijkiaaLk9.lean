/- The reference's Link; equal codes. -/
import Derived.Test.YtmaepdebbijkiaaLk8
namespace Go.Proofs.Ytmaepdebbijkiaa
open Go Go.Sx Go.Sx.Chunk
set_option linter.unusedVariables false
set_option linter.unusedSimpArgs false

theorem goB {l : List Ob} (hl : l.length ≤ 1000) (hok : ∀ o ∈ l, OkOb o) (hg : ∀ o ∈ l, goodO o = true) : GoB l := by
  refine ⟨hl, hok, fun o ho => ((goodO_parts o).1 (hg o ho)).2.2.1, fun o ho => ⟨((goodO_parts o).1 (hg o ho)).2.2.2.2.1, ((goodO_parts o).1 (hg o ho)).2.2.2.2.2.1⟩, fun o ho x hx => ?_, fun o ho => ((goodO_parts o).1 (hg o ho)).2.2.2.2.2.2.1.2⟩
  have h5 := ((goodO_parts o).1 (hg o ho)).1
  have h7 := ((goodO_parts o).1 (hg o ho)).2.2.1
  rw [List.all_eq_true] at h5
  have h6 := h5 x hx
  simp only [goodE, Bool.and_eq_true, decide_eq_true_eq] at h6
  omega
def linkW (r : List In × Int × Int) (x : Option Addr × Nat) : Value := .tuple #[.slice x.1 r.1.length x.2, .int .i64 r.2.1, .int .i64 r.2.2]
theorem bool_not_dec {b : Bool} : (!b) = true ↔ b = false := by cases b <;> simp
set_option maxHeartbeats 16000000 in
theorem link15C (a : Option Addr) (c : Nat) (l : List Ob) (mem : Int) (hl : l.length ≤ 1000) (hok : ∀ o ∈ l, OkOb o) :
    FnC Try.prog 12 [.slice a l.length c, .int .i64 mem] [] [rng a (obC l), seeO l] (fun x : Option Addr × Nat => linkW (linkF l mem) x) (fun x => [row x.1 x.2 47 5 (linkF l mem).1.length (insC (linkF l mem).1)]) (fun _ => True) := by
  refine fn_intro Try.func12 Try.ntmps12 rfl rfl rfl (fun w0 => ?_)
  try simp only [List.cons_append, List.nil_append, List.append_nil]
  unfold linkW
  by_cases h1 : l.length = 0
  · have hf : linkF l mem = ([], 0, 1) := by unfold linkF; rw [if_pos (.inl h1)]
    rw [hf]
    refine rr ?_
    exact en (none, 0) trivial
  by_cases h2 : mem < 0
  · have hf : linkF l mem = ([], 0, 1) := by unfold linkF; rw [if_pos (.inr (.inl h2))]
    rw [hf]
    refine rr ?_
    exact en (none, 0) trivial
  by_cases h3 : 32000 < mem
  · have hf : linkF l mem = ([], 0, 1) := by unfold linkF; rw [if_pos (.inr (.inr (.inl h3)))]
    rw [hf]
    refine rr ?_
    exact en (none, 0) trivial
  have hlen := obC_len l
  refine rr ?_
  refine lo [0, 1] (fun k : Nat => [(7, .int .i64 (k : Int))]) (fun k => []) (fun k => k ≤ l.length ∧ (l.take k).any (fun o => !goodO o) = false) (fun k => l.length - k) 0 ⟨by omega, by simp⟩ ?_
  rintro k ⟨hk, hany⟩ K1 hK1
  by_cases hlt : k < l.length
  · obtain ⟨o, he⟩ := some_at (l := l) (k := k) (by omega)
    have hmem := List.mem_of_getElem? he
    have heA : ((obC l).drop ((k : Int).toNat * 6)).take 6 = [.string o.name, .slice o.ca o.code.length o.cc, .int .i64 o.data, .slice o.ea o.exps.length o.ec, .slice o.ia o.imps.length o.ic, .slice o.pa o.pats.length o.pc] := obC_all he _ (by omega)
    have heL := obC_len l
    refine rr ?_
    refine cl (right14C o (hok o hmem)) (hl := lend_ob (k := 1) rfl hmem) ?_
    intro _ _
    try simp only [List.cons_append, List.nil_append, List.append_nil]
    cases hgo : goodO o with
    | true =>
      refine rr ?_
      exact ro hK1 (k + 1) ⟨by omega, any_step he (by rw [hgo]; rfl) hany⟩
    | false =>
      have hf : linkF l mem = ([], 0, 1) := by unfold linkF; rw [if_pos (.inr (.inr (.inr (any_hit he (by rw [hgo]; rfl)))))]
      rw [hf]
      refine rr ?_
      exact en (none, 0) trivial
  obtain rfl : k = l.length := by omega
  rw [List.take_length] at hany
  have hgood : ∀ o ∈ l, goodO o = true := fun o ho => by
    rw [List.any_eq_false] at hany
    have := hany o ho
    simpa using this
  have hg := goB hl hok hgood
  have hcond : ¬ (l.length = 0 ∨ mem < 0 ∨ 32000 < mem ∨ l.any (fun o => !goodO o) = true) := by
    rintro (h | h | h | h)
    · exact h1 h
    · exact h2 h
    · exact h3 h
    · rw [hany] at h; cases h
  refine rr ?_
  refine cl (twiceC a c l hg) ?_
  intro _ _
  try simp only [List.cons_append, List.nil_append, List.append_nil]
  rw [twG_names]
  cases h5 : namesF [] [] 0 l with
  | none =>
    have hf : linkF l mem = ([], 0, 6) := by unfold linkF; rw [if_neg hcond, h5]
    rw [hf]
    refine rr ?_
    exact en (none, 0) trivial
  | some sy =>
  have hplc := names_pl h5
  refine rr ?_
  refine cl (basesC a c l l.length (Nat.le_refl _) hg) ?_
  intro _ _
  try simp only [List.cons_append, List.nil_append, List.append_nil]
  rw [List.take_length]
  have hat := atF_le hg.code l.length
  have hdt := dataF_le hg.data
  have hl7 : ∀ k, dataF (l.take k) ≤ dataF l := dataF_mono hg.data
  have hl8 : ∀ k, 0 ≤ dataF (l.take k) := fun k => (dataF_le (fun o ho => hg.data o (List.mem_of_mem_take ho))).1
  have hcl : (codeF l).length = atF l l.length := by have := codeF_take l l.length; rwa [List.take_length] at this
  by_cases h6 : 4096 < atF l l.length
  · have hf : linkF l mem = ([], 0, 4) := by unfold linkF; rw [if_neg hcond, h5]; dsimp only; rw [if_pos (.inl (by omega))]
    rw [hf]
    refine rr ?_
    exact en (none, 0) trivial
  by_cases h7 : mem < dataF l
  · have hf : linkF l mem = ([], 0, 4) := by unfold linkF; rw [if_neg hcond, h5]; dsimp only; rw [if_pos (.inr h7)]
    rw [hf]
    refine rr ?_
    exact en (none, 0) trivial
  have hf : linkF l mem = if (objsF sy (dataF l) mem (codeF l) ((baseK l l.length).zip l)).1 = 0 then ((objsF sy (dataF l) mem (codeF l) ((baseK l l.length).zip l)).2, dataF l, 0) else ([], 0, (objsF sy (dataF l) mem (codeF l) ((baseK l l.length).zip l)).1) := by
    unfold linkF; rw [if_neg hcond, h5]; dsimp only; rw [if_neg (by omega)]
  have hz : ∀ k o, l[k]? = some o → ((baseK l l.length).zip l)[k]? = some ((atF l k, dataF (l.take k)), o) := fun k o h => by
    have hk := (List.getElem?_eq_some_iff.1 h).1
    rw [List.getElem?_zip_eq_some]
    refine ⟨?_, h⟩
    simp [baseK, hk]
  have hzl : ((baseK l l.length).zip l).length = l.length := by simp [baseK]
  generalize (baseK l l.length).zip l = z at hf hz hzl
  generalize hR : objsF sy (dataF l) mem (codeF l) z = R at hf
  have hgc0 : ∀ i ∈ codeF l, goodI i = true := fun i hi => by
    obtain ⟨o, ho, hi⟩ := List.mem_flatMap.1 hi
    have h8 := ((goodO_parts o).1 (hgood o ho)).2.2.2.1
    rw [List.any_eq_false] at h8
    have := h8 i hi
    simpa using this
  rw [hf]
  refine rr ?_
  refine w_turn (fun w hw => hw.row_nil 47 5) ?_
  refine lo [0, 1, 9] (fun x : Nat × Option Addr × Nat => [(10, .slice x.2.1 (atF l x.1) x.2.2), (11, .int .i64 (x.1 : Int))]) (fun x => [(0, row x.2.1 x.2.2 47 5 (atF l x.1) (insC (codeF (l.take x.1))))]) (fun x => x.1 ≤ l.length) (fun x => l.length - x.1) (0, none, 0) (by omega) ?_
  rintro ⟨k, ra, rc⟩ hk K1 hK1
  dsimp only at hk ⊢
  by_cases hlt : k < l.length
  · obtain ⟨o, he⟩ := some_at (l := l) (k := k) (by omega)
    have hmem := List.mem_of_getElem? he
    have hat1 := atF_step he
    have hat2 := atF_le hg.code k
    have hgc := hg.code o hmem
    have hil := insC_len o.code
    have hio := insC_one o.code
    have he1 : (obC l)[(k : Int).toNat * 6 + 1]? = some (.slice o.ca o.code.length o.cc) := obC_at he 1 (by decide) _ (by omega)
    refine w_turn (fun w hw => look_ob hw (c := rng o.ca (insC o.code)) (k := 2) rfl hmem (by simp [obS]) rfl) ?_
    refine rr ?_
    rintro ⟨a2, c2⟩ hc2
    refine rr ?_
    rw [← insC_app, ← codeF_step he, ← hat1]
    exact ro hK1 (k + 1, a2, c2) (by show k + 1 ≤ l.length; omega)
  obtain rfl : k = l.length := by omega
  rw [List.take_length]
  refine rr ?_
  refine lo [0, 1, 9, 10] (fun x : Nat × List In => [(12, .int .i64 (x.1 : Int))]) (fun x => [(0, row ra rc 47 5 (atF l l.length) (insC x.2))])
    (fun x => x.1 ≤ l.length ∧ x.2.length = atF l l.length ∧ (∀ i ∈ x.2, goodI i = true) ∧ R = objsF sy (dataF l) mem x.2 (z.drop x.1)) (fun x => l.length - x.1) (0, codeF l) ⟨Nat.zero_le _, hcl, hgc0, hR.symm⟩ ?_
  rintro ⟨k, code⟩ ⟨hk, hcn, hgc, hRk⟩ K1 hK1
  dsimp only at hk hcn hgc hRk ⊢
  by_cases hlt : k < l.length
  · obtain ⟨o, he⟩ := some_at hlt
    have hmem := List.mem_of_getElem? he
    have hzk := hz k o he
    have hdrop : z.drop k = ((atF l k, dataF (l.take k)), o) :: z.drop (k + 1) := by
      obtain ⟨hi, hb⟩ := List.getElem?_eq_some_iff.1 hzk
      rw [List.drop_eq_getElem_cons hi, hb]
    rw [hdrop] at hRk
    have he5 : (obC l)[(k : Int).toNat * 6 + 5]? = some (.slice o.pa o.pats.length o.pc) := obC_at he 5 (by decide) _ (by omega)
    have he4 : (obC l)[(k : Int).toNat * 6 + 4]? = some (.slice o.ia o.imps.length o.ic) := obC_at he 4 (by decide) _ (by omega)
    have hoe := hok o hmem
    have hpl := hoe.pats
    have hpi := hoe.imps
    have hgp := ((goodO_parts o).1 (hgood o hmem)).2.2.2.2.2.2.2.2
    refine rr ?_
    refine cl (basesC a c l k (by omega) hg) ?_
    intro _ _
    try simp only [List.cons_append, List.nil_append, List.append_nil]
    refine rr ?_
    refine w_turn (fun w hw => look_ob hw (c := rng o.pa (paC o.pats)) (k := 2) rfl hmem (by simp [obS]) rfl) ?_
    refine w_turn (fun w hw => look_ob hw (c := rng o.ia (strC o.imps)) (k := 3) rfl hmem (by simp [obS]) rfl) ?_
    refine lo [0, 1, 9, 10, 12, 13, 14, 88, 89] (fun x : Nat × List In => [(90, .int .i64 (x.1 : Int))]) (fun x => [(2, row ra rc 47 5 (atF l l.length) (insC x.2))])
      (fun x => x.1 ≤ o.pats.length ∧ x.2.length = atF l l.length ∧ (∀ i ∈ x.2, goodI i = true) ∧ patsF (atF l k, dataF (l.take k)) sy (dataF l) mem o.imps code o.pats = patsF (atF l k, dataF (l.take k)) sy (dataF l) mem o.imps x.2 (o.pats.drop x.1)) (fun x => o.pats.length - x.1) (0, code) ⟨Nat.zero_le _, hcn, hgc, rfl⟩ ?_
    rintro ⟨i, code2⟩ ⟨hi, hcn2, hgc2, hPk⟩ K2 hK2
    dsimp only at hi hcn2 hgc2 hPk ⊢
    by_cases hil : i < o.pats.length
    · obtain ⟨p, hp⟩ := some_at hil
      have hpm := List.mem_of_getElem? hp
      have hpA : ((paC o.pats).drop ((i : Int).toNat * 3)).take 3 = [.int .i64 p.pl, .int .i64 p.kind, .int .i64 p.n] := paC_all hp _ (by omega)
      have hpL := paC_len o.pats
      have hdp : o.pats.drop i = p :: o.pats.drop (i + 1) := by
        obtain ⟨hi', hb⟩ := List.getElem?_eq_some_iff.1 hp
        rw [List.drop_eq_getElem_cons hi', hb]
      rw [hdp, patsF_cons] at hPk
      have hgp1 : ¬ goodP o.code.length o.imps.length p = false := by
        have := hgp.2
        rw [List.any_eq_false] at this
        have := this p hpm
        simpa using this
      rw [goodP_parts] at hgp1
      have hai := atF_in he
      have hltc : atF l k + p.pl.toNat < code2.length := by omega
      obtain ⟨e, hee⟩ := some_at hltc
      have hin := List.mem_of_getElem? hee
      have hin2 := insC_len code2
      have heA : ((insC code2).drop (((atF l k : Int) + p.pl).toNat * 5)).take 5 = [.int .i64 e.op, .int .i64 e.a, .int .i64 e.b, .int .i64 e.c, .int .i64 e.imm] := insC_all hee _ (by omega)
      have hgr := goodI_imm (hgc2 e hin)
      have hgd : code2.getD (atF l k + p.pl.toNat) inD = e := by simp [hee]
      have hfin : ∀ n, numF (atF l k, dataF (l.take k)) sy (dataF l) mem o.imps p e.imm = some n → patchF code2 (atF l k, dataF (l.take k)) sy (dataF l) mem o.imps p = if goodI ⟨e.op, e.a, e.b, e.c, n⟩ then (0, code2.set (atF l k + p.pl.toNat) ⟨e.op, e.a, e.b, e.c, n⟩) else (3, code2) := fun n hn => by
        unfold patchF
        dsimp only
        rw [hgd, hn]
      have hd1 := hl7 k
      have hd2 := hl8 k
      refine rr ?_
      intro b16 _
      refine rr ?_
      intro b17 _
      refine rr ?_
      by_cases k0 : p.kind = 0
      · refine rr ?_
        have hpf := hfin (e.imm + (atF l k : Int)) (by unfold numF; simp [k0])
        refine rr ?_
        refine cl (right02C ⟨e.op, e.a, e.b, e.c, e.imm + (atF l k : Int)⟩) ?_
        intro _ _
        try simp only [List.cons_append, List.nil_append, List.append_nil]
        cases hg2 : goodI ⟨e.op, e.a, e.b, e.c, e.imm + (atF l k : Int)⟩ with
        | false =>
          rw [hg2, if_neg (by decide)] at hpf
          have hR2 : R = (3, code2) := by
            rw [hRk, objsF_cons]
            dsimp only
            rw [hPk, hpf]
            rfl
          rw [hR2, if_neg (show ¬ (3 : Int) = 0 by decide)]
          refine rr ?_
          exact en (none, 0) trivial
        | true =>
          rw [hg2, if_pos rfl] at hpf
          have hset := insC_set ⟨e.op, e.a, e.b, e.c, e.imm + (atF l k : Int)⟩ hltc (N := ((atF l k : Int) + p.pl).toNat * 5) (by omega)
          dsimp only at hset
          refine rr ?_
          exact ro hK2 (i + 1, code2.set (atF l k + p.pl.toNat) ⟨e.op, e.a, e.b, e.c, e.imm + (atF l k : Int)⟩) ⟨by omega, by simp [hcn2], by have h9 := patchF_good (b := (atF l k, dataF (l.take k))) (syms := sy) (all := dataF l) (mem := mem) (imps := o.imps) (p := p) hgc2; rw [hpf] at h9; exact h9, by rw [hPk, hpf, if_pos rfl]⟩ (hp := by
            try dsimp only
            rw [← hset]
            repeat (first | exact Has.nil | (apply Has.cons; focus ((repeat (first | exact pick_here | apply pick_there)); done)) | apply Has.nrow | apply Has.gen0))
      by_cases k1 : p.kind = 1
      · refine rr ?_
        have hpf := hfin (e.imm + dataF (l.take k)) (by unfold numF; simp [k1])
        refine rr ?_
        refine cl (right02C ⟨e.op, e.a, e.b, e.c, e.imm + dataF (l.take k)⟩) ?_
        intro _ _
        try simp only [List.cons_append, List.nil_append, List.append_nil]
        cases hg2 : goodI ⟨e.op, e.a, e.b, e.c, e.imm + dataF (l.take k)⟩ with
        | false =>
          rw [hg2, if_neg (by decide)] at hpf
          have hR2 : R = (3, code2) := by
            rw [hRk, objsF_cons]
            dsimp only
            rw [hPk, hpf]
            rfl
          rw [hR2, if_neg (show ¬ (3 : Int) = 0 by decide)]
          refine rr ?_
          exact en (none, 0) trivial
        | true =>
          rw [hg2, if_pos rfl] at hpf
          have hset := insC_set ⟨e.op, e.a, e.b, e.c, e.imm + dataF (l.take k)⟩ hltc (N := ((atF l k : Int) + p.pl).toNat * 5) (by omega)
          dsimp only at hset
          refine rr ?_
          exact ro hK2 (i + 1, code2.set (atF l k + p.pl.toNat) ⟨e.op, e.a, e.b, e.c, e.imm + dataF (l.take k)⟩) ⟨by omega, by simp [hcn2], by have h9 := patchF_good (b := (atF l k, dataF (l.take k))) (syms := sy) (all := dataF l) (mem := mem) (imps := o.imps) (p := p) hgc2; rw [hpf] at h9; exact h9, by rw [hPk, hpf, if_pos rfl]⟩ (hp := by
            try dsimp only
            rw [← hset]
            repeat (first | exact Has.nil | (apply Has.cons; focus ((repeat (first | exact pick_here | apply pick_there)); done)) | apply Has.nrow | apply Has.gen0))
      by_cases k2 : p.kind = 2
      · rw [if_pos k2] at hgp1
        have hnl : p.n.toNat < o.imps.length := by omega
        obtain ⟨sn, hsn⟩ := some_at hnl
        have hst : (strC o.imps)[p.n.toNat * 1]? = some (.string sn) := by rw [Nat.mul_one]; exact strC_at hsn
        have hsl := strC_len o.imps
        have hsd : o.imps.getD p.n.toNat .empty = sn := by simp [hsn]
        have hpn := hplc sn
        refine rr ?_
        refine dx [0, 1, 2, 3, 4, 5, 6, 7, 8, 9, 10, 11, 12, 13, 14, 15] [5, 7, 9] [] ?_
        refine rr ?_
        refine cld (placeC a c l sn hg) ?_
        intro _ _
        try simp only [List.cons_append, List.nil_append, List.append_nil]
        rw [hpn]
        cases hs : symF sn sy with
        | none =>
          dsimp only
          have hpf : patchF code2 (atF l k, dataF (l.take k)) sy (dataF l) mem o.imps p = (5, code2) := by
            unfold patchF numF
            dsimp only
            rw [if_neg k0, if_neg k1, if_pos k2, hsd, hs]
          have hR2 : R = (5, code2) := by
            rw [hRk, objsF_cons]
            dsimp only
            rw [hPk, hpf]
            rfl
          rw [hR2, if_neg (show ¬ (5 : Int) = 0 by decide)]
          refine rr ?_
          exact en (none, 0) trivial
        | some to =>
          dsimp only
          refine rr ?_
          have hpf := hfin (to) (by unfold numF; simp [k2, show (o.imps[p.n.toNat]?).getD ByteArray.empty = sn by rw [hsn]; rfl, hs])
          refine rr ?_
          refine cl (right02C ⟨e.op, e.a, e.b, e.c, to⟩) ?_
          intro _ _
          try simp only [List.cons_append, List.nil_append, List.append_nil]
          cases hg2 : goodI ⟨e.op, e.a, e.b, e.c, to⟩ with
          | false =>
            rw [hg2, if_neg (by decide)] at hpf
            have hR2 : R = (3, code2) := by
              rw [hRk, objsF_cons]
              dsimp only
              rw [hPk, hpf]
              rfl
            rw [hR2, if_neg (show ¬ (3 : Int) = 0 by decide)]
            refine rr ?_
            exact en (none, 0) trivial
          | true =>
            rw [hg2, if_pos rfl] at hpf
            have hset := insC_set ⟨e.op, e.a, e.b, e.c, to⟩ hltc (N := ((atF l k : Int) + p.pl).toNat * 5) (by omega)
            dsimp only at hset
            refine rr ?_
            exact ro hK2 (i + 1, code2.set (atF l k + p.pl.toNat) ⟨e.op, e.a, e.b, e.c, to⟩) ⟨by omega, by simp [hcn2], by have h9 := patchF_good (b := (atF l k, dataF (l.take k))) (syms := sy) (all := dataF l) (mem := mem) (imps := o.imps) (p := p) hgc2; rw [hpf] at h9; exact h9, by rw [hPk, hpf, if_pos rfl]⟩ (hp := by
              try dsimp only
              rw [← hset]
              repeat (first | exact Has.nil | (apply Has.cons; focus ((repeat (first | exact pick_here | apply pick_there)); done)) | apply Has.nrow | apply Has.gen0))
      by_cases k3 : p.kind = 3
      · refine rr ?_
        have hpf := hfin (e.imm - dataF l) (by unfold numF; simp [k3])
        refine rr ?_
        refine cl (right02C ⟨e.op, e.a, e.b, e.c, e.imm - dataF l⟩) ?_
        intro _ _
        try simp only [List.cons_append, List.nil_append, List.append_nil]
        cases hg2 : goodI ⟨e.op, e.a, e.b, e.c, e.imm - dataF l⟩ with
        | false =>
          rw [hg2, if_neg (by decide)] at hpf
          have hR2 : R = (3, code2) := by
            rw [hRk, objsF_cons]
            dsimp only
            rw [hPk, hpf]
            rfl
          rw [hR2, if_neg (show ¬ (3 : Int) = 0 by decide)]
          refine rr ?_
          exact en (none, 0) trivial
        | true =>
          rw [hg2, if_pos rfl] at hpf
          have hset := insC_set ⟨e.op, e.a, e.b, e.c, e.imm - dataF l⟩ hltc (N := ((atF l k : Int) + p.pl).toNat * 5) (by omega)
          dsimp only at hset
          refine rr ?_
          exact ro hK2 (i + 1, code2.set (atF l k + p.pl.toNat) ⟨e.op, e.a, e.b, e.c, e.imm - dataF l⟩) ⟨by omega, by simp [hcn2], by have h9 := patchF_good (b := (atF l k, dataF (l.take k))) (syms := sy) (all := dataF l) (mem := mem) (imps := o.imps) (p := p) hgc2; rw [hpf] at h9; exact h9, by rw [hPk, hpf, if_pos rfl]⟩ (hp := by
            try dsimp only
            rw [← hset]
            repeat (first | exact Has.nil | (apply Has.cons; focus ((repeat (first | exact pick_here | apply pick_there)); done)) | apply Has.nrow | apply Has.gen0))
      have k4 : p.kind = 4 := by omega
      refine rr ?_
      have hpf := hfin (e.imm + mem) (by unfold numF; simp [k4])
      refine rr ?_
      refine cl (right02C ⟨e.op, e.a, e.b, e.c, e.imm + mem⟩) ?_
      intro _ _
      try simp only [List.cons_append, List.nil_append, List.append_nil]
      cases hg2 : goodI ⟨e.op, e.a, e.b, e.c, e.imm + mem⟩ with
      | false =>
        rw [hg2, if_neg (by decide)] at hpf
        have hR2 : R = (3, code2) := by
          rw [hRk, objsF_cons]
          dsimp only
          rw [hPk, hpf]
          rfl
        rw [hR2, if_neg (show ¬ (3 : Int) = 0 by decide)]
        refine rr ?_
        exact en (none, 0) trivial
      | true =>
        rw [hg2, if_pos rfl] at hpf
        have hset := insC_set ⟨e.op, e.a, e.b, e.c, e.imm + mem⟩ hltc (N := ((atF l k : Int) + p.pl).toNat * 5) (by omega)
        dsimp only at hset
        refine rr ?_
        exact ro hK2 (i + 1, code2.set (atF l k + p.pl.toNat) ⟨e.op, e.a, e.b, e.c, e.imm + mem⟩) ⟨by omega, by simp [hcn2], by have h9 := patchF_good (b := (atF l k, dataF (l.take k))) (syms := sy) (all := dataF l) (mem := mem) (imps := o.imps) (p := p) hgc2; rw [hpf] at h9; exact h9, by rw [hPk, hpf, if_pos rfl]⟩ (hp := by
          try dsimp only
          rw [← hset]
          repeat (first | exact Has.nil | (apply Has.cons; focus ((repeat (first | exact pick_here | apply pick_there)); done)) | apply Has.nrow | apply Has.gen0))
    · obtain rfl : i = o.pats.length := by omega
      rw [List.drop_length, patsF_nil] at hPk
      refine rr ?_
      refine ro hK1 (k + 1, code2) ⟨by omega, hcn2, hgc2, ?_⟩
      rw [hRk, objsF_cons]
      dsimp only
      rw [hPk, if_pos rfl]
  · obtain rfl : k = l.length := by omega
    rw [List.drop_of_length_le (by omega), objsF_nil] at hRk
    subst hRk
    rw [if_pos rfl]
    dsimp only
    rw [hcn]
    refine rr ?_
    exact en (ra, rc) trivial
end Go.Proofs.Ytmaepdebbijkiaa

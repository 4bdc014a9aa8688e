/- Equal codes; objects as the document's. -/
import Derived.Test.YtmaepdebbijkiaaLk9
namespace Go.Proofs.Ytmaepdebbijkiaa
open Go Go.Sx Go.Sx.Chunk
set_option linter.unusedVariables false
set_option linter.unusedSimpArgs false

theorem sameC (a b : Option Addr) (c d : Nat) (x y : List In) (hx : x.length ≤ 8796093021952) (hy : y.length ≤ 8796093021952) :
    FnC (α := Unit) Try.prog 13 [.slice a x.length c, .slice b y.length d] [] [rng a (insC x), rng b (insC y)] (fun _ => .bool (decide (x = y))) (fun _ => []) (fun _ => True) := by
  refine fn_intro Try.func13 Try.ntmps13 rfl rfl rfl (fun w0 => ?_)
  try simp only [List.cons_append, List.nil_append, List.append_nil]
  by_cases hlen : x.length = y.length
  · refine rr ?_
    refine lo [0, 1, 12] (fun k : Nat => [(13, .int .i64 (k : Int))]) (fun k => []) (fun k => k ≤ x.length ∧ x.take k = y.take k) (fun k => x.length - k) 0 ⟨by omega, by simp⟩ ?_
    rintro k ⟨hk, heq⟩ K1 hK1
    by_cases hlt : k < x.length
    · obtain ⟨e, he⟩ := some_at hlt
      obtain ⟨f, hf⟩ := some_at (l := y) (k := k) (by omega)
      have heA : ((insC x).drop ((k : Int).toNat * 5)).take 5 = [.int .i64 e.op, .int .i64 e.a, .int .i64 e.b, .int .i64 e.c, .int .i64 e.imm] := insC_all he _ (by omega)
      have heL := insC_len x
      have hfA : ((insC y).drop ((k : Int).toNat * 5)).take 5 = [.int .i64 f.op, .int .i64 f.a, .int .i64 f.b, .int .i64 f.c, .int .i64 f.imm] := insC_all hf _ (by omega)
      have hfL := insC_len y
      refine rr ?_
      refine dx [0, 1, 2, 3, 4, 5, 6, 7, 8] [3, 7] [] ?_
      refine rr ?_
      by_cases hef : e = f
      · subst hef
        refine rr ?_
        exact ro hK1 (k + 1) ⟨by omega, by rw [take_snoc he, take_snoc hf, heq]⟩
      · have hne : (!(e.op == f.op && (e.a == f.a && (e.b == f.b && (e.c == f.c && (e.imm == f.imm && true)))))) = true := by
          obtain ⟨e1, e2, e3, e4, e5⟩ := e
          obtain ⟨f1, f2, f3, f4, f5⟩ := f
          simp only [In.mk.injEq, not_and] at hef
          simp
          omega
        refine rr ?_
        refine en () trivial (hv := ?_)
        have : x ≠ y := fun h => by rw [h, hf] at he; exact hef (Option.some.inj he).symm
        simp [packR, this]
    · obtain rfl : k = x.length := by omega
      rw [List.take_length, hlen, List.take_length] at heq
      refine rr ?_
      refine en () trivial (hv := ?_)
      simp [packR, heq]
  · refine rr ?_
    refine en () trivial (hv := ?_)
    have : x ≠ y := fun h => hlen (by rw [h])
    simp [packR, this]
/-- An object without its places. -/
def canon (o : Ob) : Ob := ⟨o.name, none, 0, o.code, o.data, none, 0, o.exps, none, 0, o.imps, none, 0, o.pats⟩
theorem canon_any (l : List Ob) : (l.map canon).any (fun o => !goodO o) = l.any (fun o => !goodO o) := by
  rw [List.any_map]; rfl
theorem canon_names : ∀ (l : List Ob) (seen : List ByteArray) (s : List Sym) (m : Int), namesF seen s m (l.map canon) = namesF seen s m l
  | [], _, _, _ => rfl
  | o :: l, seen, s, m => by
    simp only [List.map_cons, namesF]
    have ih := canon_names l
    show (if inL o.name seen then none else match expsF m s o.exps with | none => none | some s' => namesF (seen ++ [o.name]) s' (m + o.code.length) (l.map canon)) = _
    cases inL o.name seen with
    | true => rfl
    | false =>
      cases expsF m s o.exps with
      | none => rfl
      | some s' => simp only [ih]
theorem canon_code (l : List Ob) : codeF (l.map canon) = codeF l := by unfold codeF; rw [List.flatMap_map]; rfl
theorem canon_data (l : List Ob) : dataF (l.map canon) = dataF l := by unfold dataF; rw [List.map_map]; rfl
theorem canon_at (l : List Ob) (k : Nat) : atF (l.map canon) k = atF l k := by unfold atF; rw [← List.map_take, List.map_map]; rfl
theorem canon_base (l : List Ob) (k : Nat) : baseK (l.map canon) k = baseK l k := by
  unfold baseK
  refine List.map_congr_left fun i _ => ?_
  rw [canon_at, ← List.map_take, canon_data]
theorem canon_objs (sy : List Sym) (all mem : Int) : ∀ (l : List Ob) (bs : List Ba) (code : List In), objsF sy all mem code (bs.zip (l.map canon)) = objsF sy all mem code (bs.zip l)
  | [], bs, code => by simp
  | o :: l, [], code => rfl
  | o :: l, b :: bs, code => by
    simp only [List.map_cons, List.zip_cons_cons, objsF_cons, canon_objs sy all mem l bs]
    rfl
theorem linkF_canon (l : List Ob) (mem : Int) : linkF (l.map canon) mem = linkF l mem := by
  unfold linkF
  rw [List.length_map, canon_any, canon_names, canon_code, canon_data, canon_base]
  simp only [canon_objs]
theorem linkF_same {l l' : List Ob} (h : l'.map canon = l.map canon) (mem : Int) : linkF l' mem = linkF l mem := by
  rw [← linkF_canon l', h, linkF_canon]
theorem prov_cons {R : List Chunk} {c d : Chunk} (h : Prov R d) : Prov (c :: R) d := h.mono (fun x hx => List.mem_cons_of_mem _ hx)
/-- One more row that is read from now on. -/
theorem gen_add {w0 w : World} {M : Nat → Prop} {H news : List Chunk} {a : Option Addr} {cap e sz n : Nat} {xs : List Value} (hw : St w0 M w (genL news :: row a cap e sz n xs :: H)) : St w0 M w (genL (rng a xs :: news) :: H) := by
  refine hw.gens rfl rfl (fun x hx => ?_)
  rcases List.mem_cons.1 hx with rfl | hx
  · exact ((row_rng (cap := cap) (e := e) (sz := sz) (n := n)).one (prov_mem (by simp)))
  · exact (gen_mem hx).one (prov_mem (by simp))
theorem prov_gen {news : List Chunk} {d : Chunk} {R : List Chunk} {c : Chunk} (h : Prov [genL news, d] c) (x : Chunk) : Prov [genL (x :: news), d] c := by
  refine h.trans (fun y hy => ?_)
  simp only [List.mem_cons, List.not_mem_nil, or_false] at hy
  rcases hy with rfl | rfl
  · refine ⟨fun k ⟨z, hz, hk⟩ => ⟨genL (x :: news), by simp, z, by simp [hz], hk⟩, fun w hw z hz => ?_⟩
    exact (gen_mem (cs := x :: news) (by simp [hz])).2 w (fun u hu => by simp only [List.mem_singleton] at hu; subst hu; exact hw _ (by simp))
  · exact prov_mem (by simp)
theorem smallF_canon (o o' : Ob) (h : canon o' = canon o) : smallF o' = smallF o := by
  have h1 : smallF (canon o') = smallF o' := rfl
  have h2 : smallF (canon o) = smallF o := rfl
  rw [← h1, h, h2]
theorem syC_app (a : List Sy) (b : Sy) : syC (a ++ [b]) = syC a ++ syV b := by simp [syC]
theorem paC_app (a : List Pa) (b : Pa) : paC (a ++ [b]) = paC a ++ paV b := by simp [paC]
theorem obC_app (a : List Ob) (b : Ob) : obC (a ++ [b]) = obC a ++ obV b := by simp [obC]
/-- What refs answers: not short, or objects of the same kind. -/
structure RefR where
  mk ::
  (ok : Bool) (oa : Option Addr) (oc : Nat) (l : List Ob) (news : List Chunk)
structure RefOk (l : List Ob) (r : RefR) : Prop where
  ok : r.ok = (decide (l.length ≤ 6) && l.all smallF)
  same : r.ok = true → r.l.map canon = l.map canon
  prov : ∀ c ∈ r.l.flatMap obS, Prov [genL r.news, seeO l] c
def refH (r : RefR) : List Chunk := if r.ok then [row r.oa r.oc 53 6 r.l.length (obC r.l), genL r.news] else []
theorem refW (r : RefR) : allW (refH r) = true := by unfold refH; split <;> rfl
theorem canon_len {l l' : List Ob} (h : l'.map canon = l.map canon) : l'.length = l.length := by
  have := congrArg List.length h
  simpa using this
set_option maxHeartbeats 4000000 in
theorem refsC (a : Option Addr) (c : Nat) (l : List Ob) (hok : ∀ o ∈ l, OkOb o) :
    FnC Try.prog 9 [.slice a l.length c] [] [rng a (obC l), seeO l] (fun r : RefR => .tuple #[if r.ok then .slice r.oa l.length r.oc else .slice none 0 0, .bool r.ok]) refH (RefOk l) := by
  refine fn_intro Try.func9 Try.ntmps9 rfl rfl rfl (fun w0 => ?_)
  try simp only [List.cons_append, List.nil_append, List.append_nil]
  by_cases h6 : 6 < l.length
  · refine rr ?_
    exact en ⟨false, none, 0, [], []⟩ ⟨by simp; omega, fun h => (by cases h), fun c hc => by simp at hc⟩
  have hlen := obC_len l
  refine rr ?_
  refine w_turn (fun w hw => (hw.gen0.row_nil 53 6)) ?_
  refine lo [15, 16] (fun x : Nat × Option Addr × Nat × List Ob × List Chunk => [(4, .slice x.2.1 x.1 x.2.2.1), (17, .int .i64 (x.1 : Int))]) (fun x => [(0, row x.2.1 x.2.2.1 53 6 x.1 (obC x.2.2.2.1)), (1, genL x.2.2.2.2)])
    (fun x => x.1 ≤ l.length ∧ x.2.2.2.1.map canon = (l.take x.1).map canon ∧ (l.take x.1).all smallF = true ∧ ∀ c ∈ x.2.2.2.1.flatMap obS, Prov [genL x.2.2.2.2, seeO l] c) (fun x => l.length - x.1) (0, none, 0, [], []) ⟨by omega, rfl, by simp, fun c hc => by simp at hc⟩ ?_
  rintro ⟨k, oa, oc, l', news⟩ ⟨hk, hcan, hall, hprov⟩ K1 hK1
  dsimp only at hk hcan hall hprov ⊢
  by_cases hlt : k < l.length
  · obtain ⟨o, he⟩ := some_at (l := l) (k := k) (by omega)
    have hmem := List.mem_of_getElem? he
    have hoe := hok o hmem
    have h3 := hoe.exps
    have h4 := hoe.pats
    have heA : ((obC l).drop ((k : Int).toNat * 6)).take 6 = [.string o.name, .slice o.ca o.code.length o.cc, .int .i64 o.data, .slice o.ea o.exps.length o.ec, .slice o.ia o.imps.length o.ic, .slice o.pa o.pats.length o.pc] := obC_all he _ (by omega)
    have heL := obC_len l
    refine rr ?_
    intro b6 _
    refine rr ?_
    intro b7 _
    refine rr ?_
    refine w_turn (fun w hw => look_ob hw (c := rng o.ea (syC o.exps)) (k := 5) rfl hmem (by simp [obS]) rfl) ?_
    refine w_turn (fun w hw => hw.row_nil 56 2) ?_
    refine lo [4, 6, 7, 15, 16, 17, 31, 32] (fun x : Nat × Option Addr × Nat => [(31 + 2, .int .i64 (x.1 : Int))]) (fun x => [(0, row x.2.1 x.2.2 56 2 x.1 (syC (o.exps.take x.1))), (2, blk b7 [.string o.name, .slice o.ca o.code.length o.cc, .int .i64 o.data, .slice x.2.1 x.1 x.2.2, .slice o.ia o.imps.length o.ic, .slice none 0 0] 53)])
      (fun x => x.1 ≤ o.exps.length) (fun x => o.exps.length - x.1) (0, none, 0) (by omega) ?_
    rintro ⟨i, ea, ec⟩ hi K2 hK2
    dsimp only at hi ⊢
    by_cases hil : i < o.exps.length
    · obtain ⟨x, hx⟩ := some_at hil
      have hxA : ((syC o.exps).drop ((i : Int).toNat * 2)).take 2 = [.string x.name, .int .i64 x.pl] := syC_all hx _ (by omega)
      have hxL := syC_len o.exps
      have happ : syC (o.exps.take i) ++ [.string x.name, .int .i64 x.pl] = syC (o.exps.take (i + 1)) := by rw [take_snoc hx, syC_app]; rfl
      refine rr ?_
      intro b9 _
      refine rr ?_
      intro b40 _
      refine rr ?_
      rintro ⟨a1, c1⟩ ⟨hc1, _⟩
      refine rr ?_
      rw [happ]
      exact ro hK2 (i + 1, a1, c1) (by show i + 1 ≤ o.exps.length; omega)
    obtain rfl : i = o.exps.length := by omega
    rw [List.take_length]
    refine rr ?_
    refine w_turn (fun w hw => look_ob hw (c := rng o.pa (paC o.pats)) (k := 7) rfl hmem (by simp [obS]) rfl) ?_
    refine w_turn (fun w hw => hw.row_nil 59 3) ?_
    refine lo [4, 7, 15, 16, 17, 45, 46] (fun x : Nat × Option Addr × Nat => [(47, .int .i64 (x.1 : Int))]) (fun x => [(0, row x.2.1 x.2.2 59 3 x.1 (paC (o.pats.take x.1))), (4, blk b7 [.string o.name, .slice o.ca o.code.length o.cc, .int .i64 o.data, .slice ea o.exps.length ec, .slice o.ia o.imps.length o.ic, .slice x.2.1 x.1 x.2.2] 53)])
      (fun x => x.1 ≤ o.pats.length) (fun x => o.pats.length - x.1) (0, none, 0) (by omega) ?_
    rintro ⟨j, pa, pc⟩ hj K3 hK3
    dsimp only at hj ⊢
    by_cases hjl : j < o.pats.length
    · obtain ⟨x, hx⟩ := some_at hjl
      have hxA : ((paC o.pats).drop ((j : Int).toNat * 3)).take 3 = [.int .i64 x.pl, .int .i64 x.kind, .int .i64 x.n] := paC_all hx _ (by omega)
      have hxL := paC_len o.pats
      have happ : paC (o.pats.take j) ++ [.int .i64 x.pl, .int .i64 x.kind, .int .i64 x.n] = paC (o.pats.take (j + 1)) := by rw [take_snoc hx, paC_app]; rfl
      refine rr ?_
      intro b9 _
      refine rr ?_
      intro b40 _
      refine rr ?_
      rintro ⟨a1, c1⟩ ⟨hc1, _⟩
      refine rr ?_
      rw [happ]
      exact ro hK3 (j + 1, a1, c1) (by show j + 1 ≤ o.pats.length; omega)
    obtain rfl : j = o.pats.length := by omega
    rw [List.take_length]
    obtain ⟨o', ho'⟩ : ∃ o' : Ob, o' = ⟨o.name, o.ca, o.cc, o.code, o.data, ea, ec, o.exps, o.ia, o.ic, o.imps, pa, pc, o.pats⟩ := ⟨_, rfl⟩
    have hcan' : canon o' = canon o := by rw [ho']; rfl
    have hoe' : OkOb o' := by rw [ho']; exact ⟨hoe.name, hoe.code, hoe.exps, hoe.imps, hoe.pats, hoe.ens, hoe.ins⟩
    have hsm := smallC o' hoe'
    rw [smallF_canon o o' hcan', ho'] at hsm
    unfold obG at hsm
    dsimp only at hsm
    refine w_turn (fun w hw => look_ob hw (c := rng o.ia (strC o.imps)) (k := 9) rfl hmem (by simp [obS]) rfl) ?_
    refine rr ?_
    refine cl (hsm) ?_
    intro _ _
    try simp only [List.cons_append, List.nil_append, List.append_nil]
    cases hs : smallF o with
    | false =>
      refine rr ?_
      refine en ⟨false, none, 0, [], []⟩ ⟨?_, fun h => (by cases h), fun c hc => by simp at hc⟩
      have : l.all smallF = false := all_bad he hs
      simp [this]
    | true =>
      refine rr ?_
      intro b63 _
      refine rr ?_
      rintro ⟨a1, c1⟩ ⟨hc1, _⟩
      refine rr ?_
      have happ : obC l' ++ [.string o.name, .slice o.ca o.code.length o.cc, .int .i64 o.data, .slice ea o.exps.length ec, .slice o.ia o.imps.length o.ic, .slice pa o.pats.length pc] = obC (l' ++ [o']) := by rw [obC_app, ho']; rfl
      rw [happ]
      refine w_has (H' := [genL news, row ea ec 56 2 o.exps.length (syC o.exps)]) (by repeat (first | exact Has.nil | (apply Has.cons; focus ((repeat (first | exact pick_here | apply pick_there)); done)))) ?_
      simp only [List.cons_append, List.nil_append]
      refine w_turn (fun w hw => gen_add hw) ?_
      refine w_has (H' := [genL (rng ea (syC o.exps) :: news), row pa pc 59 3 o.pats.length (paC o.pats)]) (by repeat (first | exact Has.nil | (apply Has.cons; focus ((repeat (first | exact pick_here | apply pick_there)); done)))) ?_
      simp only [List.cons_append, List.nil_append]
      refine w_turn (fun w hw => gen_add hw) ?_
      refine ro hK1 (k + 1, a1, c1, l' ++ [o'], rng pa (paC o.pats) :: rng ea (syC o.exps) :: news) ⟨by dsimp only; omega, ?_, all_take he hs hall, ?_⟩
      · dsimp only
        rw [take_snoc he, List.map_append, List.map_append, hcan]
        simp [hcan']
      · dsimp only
        intro c hc
        rw [List.flatMap_append, List.mem_append] at hc
        rcases hc with hc | hc
        · exact prov_gen (R := []) (prov_gen (R := []) (hprov c hc) _) _
        · rw [ho'] at hc
          simp only [List.flatMap_cons, List.flatMap_nil, List.append_nil, obS, List.mem_cons, List.not_mem_nil, or_false] at hc
          rcases hc with rfl | rfl | rfl | rfl
          · exact (seeO_prov hmem (by simp [obS])).one (prov_mem (by simp))
          · exact (gen_mem (cs := rng pa (paC o.pats) :: rng ea (syC o.exps) :: news) (by simp)).one (prov_mem (by simp))
          · exact (seeO_prov hmem (by simp [obS])).one (prov_mem (by simp))
          · exact (gen_mem (cs := rng pa (paC o.pats) :: rng ea (syC o.exps) :: news) (by simp)).one (prov_mem (by simp))
  · obtain rfl : k = l.length := by omega
    rw [List.take_length] at hcan hall
    have hln := canon_len hcan
    have h7 : l.length ≤ 6 := by omega
    rw [← hln]
    refine rr ?_
    refine en ⟨true, oa, oc, l', news⟩ ⟨?_, fun _ => hcan, hprov⟩
    simp [hall, h7]
end Go.Proofs.Ytmaepdebbijkiaa

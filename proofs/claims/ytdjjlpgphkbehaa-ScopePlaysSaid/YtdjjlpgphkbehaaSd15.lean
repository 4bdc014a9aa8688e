/- ScopePlays: are the names of the innermost scope what the document says? -/
import Derived.Test.YtdjjlpgphkbehaaSd13
namespace Go.Proofs.Ytdjjlpgphkbehaa
open Go Go.Sx Go.Sx.Chunk
set_option linter.unusedVariables false
set_option linter.unusedSimpArgs false

set_option maxHeartbeats 8000000 in
theorem tellsC (b : Nat) (p : Cp) (a : Option Addr) (c : Nat) (l : List R3) (d : Nat) (hv : val3 l d) (hl : l.length ≤ 100) (hd : d ≤ 100) :
    FnC Try.prog 16 [ptrV b, .slice a l.length c, .int .i64 (d : Int)] (tbH b (esL l) (bsL l d) p ++ [rowR a c l]) [] (fun _ : Cp => .bool true) (fun q => tbH b (esL l) (bsL l d) q ++ [rowR a c l]) (fun _ => True) := by
  have hok := val_ok hv hl hd
  refine fn_introM Try.func16 Try.ntmps16 rfl rfl rfl (fun w0 => ?_)
  try simp only [List.cons_append, List.nil_append, List.append_nil]
  refine rr ?_
  intro b6 _
  refine rr ?_
  intro b7 _
  refine w_turn (fun w hw => (hw.row_nil 41 3).sub [1, 0, 0, 0, 0, 0, 0] (A := blk b7 [.slice none 0 0] 35 :: row none 0 41 3 0 [] :: blk b6 [.bool false] 4 :: (tbH b (esL l) (bsL l d) p ++ [rowR a c l])) rfl) ?_
  refine rr ?_
  refine w_loop (α := Nat × Option Addr × Nat) (fun x => [(0, ptrV b), (2, .int .i64 (d : Int)), (6, ptrV b6), (7, ptrV b7), (14, .slice a l.length c), (15, .int .i64 (l.length : Int)), (16, .int .i64 (x.1 : Int))])
    (fun x => blk b7 [.slice x.2.1 (ownL (l.take x.1) d).length x.2.2] 35 :: row x.2.1 x.2.2 41 3 (ownL (l.take x.1) d).length (r3C (ownL (l.take x.1) d)) :: blk b6 [.bool false] 4 :: (tbH b (esL l) (bsL l d) p ++ [rowR a c l])) (fun x => x.1 ≤ l.length) (fun x => l.length - x.1) (0, none, 0) ⟨rfl, rfl, rfl, rfl, rfl, rfl, rfl, trivial⟩ rfl (Nat.zero_le _) ?_
  rintro ⟨k, ra, rc⟩ hk K1 hK1
  dsimp only at hk ⊢
  have hlen : ∀ k, (ownL (l.take k) d).length ≤ 100 := fun k => by
    have := List.length_filter_le (fun e : R3 => decide (e.2.2 = d) && decide (0 < d)) (l.take k)
    simp only [List.length_take] at this
    show (List.filter _ _).length ≤ 100
    omega
  by_cases hlt : k < l.length
  · obtain ⟨e, he⟩ := some_at hlt
    have h3 : ((r3C l).drop (0 + (k : Int).toNat * 3)).take 3 = [.string e.1, .int .i64 e.2.1, .int .i64 (e.2.2 : Int)] := r3C_all he _ (by omega)
    have hll := r3C_len l
    have hout := hlen k
    have hstep : ownL (l.take (k + 1)) d = ownL (l.take k) d ++ if (decide (e.2.2 = d) && decide (0 < d)) then [e] else [] := filt_step he
    unfold rowR tbH
    simp only [List.cons_append, List.nil_append]
    refine w_use (fun w hw => (hw.pick 6 rfl).row_some (by first | omega | decide | (simp; done) | (simp <;> omega))) ?_
    rintro ⟨g1, rfl⟩
    refine rr ?_
    intro b9 _
    by_cases hc : e.2.2 = d ∧ 0 < d
    · obtain ⟨hc1, hc2⟩ := hc
      rw [if_pos (by simp [hc1, hc2])] at hstep
      refine rr ?_
      intro b10 _
      refine rr ?_
      rintro ⟨a1, c1⟩ ⟨hcc, _⟩
      refine rr ?_
      have hr3 : r3C (ownL (l.take k) d ++ [e]) = r3C (ownL (l.take k) d) ++ [.string e.1, .int .i64 e.2.1, .int .i64 (e.2.2 : Int)] := r3C_app _ _
      refine w_sub [0, 0, 1, 1, 1, 1, 1] rfl ?_
      exact w_round hK1 (k + 1, a1, c1) (by show k + 1 ≤ l.length; omega) (by show l.length - (k + 1) < l.length - k; omega) (by dsimp only; rw [hstep, hr3, List.length_append]; rfl) ⟨rfl, rfl, rfl, rfl, rfl, rfl, rfl, trivial⟩
    · rw [if_neg (by simp; omega), List.append_nil] at hstep
      by_cases hc1 : e.2.2 = d
      · have hc2 : ¬ 0 < d := fun h => hc ⟨hc1, h⟩
        refine rr ?_
        refine w_sub [1, 1, 1, 1, 1, 1, 1] rfl ?_
        exact w_round hK1 (k + 1, ra, rc) (by show k + 1 ≤ l.length; omega) (by show l.length - (k + 1) < l.length - k; omega) (by dsimp only; rw [hstep]; rfl) ⟨rfl, rfl, rfl, rfl, rfl, rfl, rfl, trivial⟩
      · refine rr ?_
        refine w_sub [1, 1, 1, 1, 1, 1, 1] rfl ?_
        exact w_round hK1 (k + 1, ra, rc) (by show k + 1 ≤ l.length; omega) (by show l.length - (k + 1) < l.length - k; omega) (by dsimp only; rw [hstep]; rfl) ⟨rfl, rfl, rfl, rfl, rfl, rfl, rfl, trivial⟩
  · obtain rfl : k = l.length := by omega
    have hown := hlen l.length
    rw [List.take_length] at hown ⊢
    have hall := own_all hv
    generalize hO : ownL l d = O at hown hall ⊢
    unfold tbH rowR
    simp only [List.cons_append, List.nil_append]
    refine rr ?_
    intro b10 _
    refine rr ?_
    refine ca [] (namesF b) ?_
    intro x hx
    try simp only [List.cons_append, List.nil_append, List.append_nil]
    unfold seqV
    refine rr ?_
    have hll := r3C_len O
    refine w_rangeFunc (σ := Nat) (τ := Empty) (A := (boxH b x :: tbH b (esL l) (bsL l d) p) ++ [blk b10 [.int .i64 ((0 : Nat) : Int)] 3, blk b7 [.slice ra O.length rc] 35, row ra rc 41 3 O.length (r3C O)]) [0, 4, 4, 4, 0, 0, 0]
      (fun s => (boxH b x :: tbH b (esL l) (bsL l d) p) ++ [blk b10 [.int .i64 (s : Int)] 3, blk b7 [.slice ra O.length rc] 35, row ra rc 41 3 O.length (r3C O)])
      (fun v => v.elim)
      (fun s => s = (ownE (esL l) (bsL l d)).length) (fun v => v.elim) (fun v => v.elim) ?_ rfl rfl rfl (fun _ => rfl) (fun v => v.elim) ?_ (fun D v => v.elim)
    · intro ly D fn tmps hE
      refine (namesC ly x b p (esL l) (bsL l d) hok (fun s : Nat => recC ly (recL fn tmps #[38, 39] _ _ D) :: [blk b10 [.int .i64 (s : Int)] 3, blk b7 [.slice ra O.length rc] 35, row ra rc 41 3 O.length (r3C O)])
        (fun v : Empty => v.elim)
        (fun pre s => s = pre.length) (fun v => v.elim) 0 ?_ (fun _ => rfl) (fun v => v.elim) rfl).perm [1, 1, 1, 1, 0, 0, 0, 0] rfl (fun z => by rcases z with z | z; rfl; exact z.elim) (fun z => by rcases z with z | z; exact ⟨[4, 0, 0, 0, 0, 0, 0, 0], [], rfl⟩; exact z.elim)
      intro pre e rest s hsplit hs
      rw [hall] at hsplit
      have hget : (esL O)[s]? = some e := by rw [hsplit, hs]; simp
      obtain ⟨f, hf, rfl⟩ : ∃ f, O[s]? = some f ∧ e = (f.1, f.2.1) := by
        unfold esL at hget
        rw [List.getElem?_map, Option.map_eq_some_iff] at hget
        obtain ⟨f, hf, rfl⟩ := hget
        exact ⟨f, hf, rfl⟩
      have hlt2 : s < O.length := (List.getElem?_eq_some_iff.1 hf).1
      have e0 : (r3C O)[0 + (s : Int).toNat * 3 + 0]? = some (.string f.1) := r3C_at hf 0 (by decide) _ (by omega)
      have e1 : (r3C O)[0 + (s : Int).toNat * 3 + 1]? = some (.int .i64 f.2.1) := r3C_at hf 1 (by decide) _ (by omega)
      dsimp only
      refine yd_go (ps := [38, 39]) (E0 := [(6, ptrV b6), (7, ptrV b7), (10, ptrV b10)]) hE ⟨rfl, rfl, rfl, trivial⟩ rfl rfl (fun w0 => ?_)
      simp only [List.zip_cons_cons, List.zip_nil_right, envPut]
      refine rr ?_
      refine w_begin rfl rfl ?_
      refine w_use (fun w hw => (hw.pick 3 rfl).row_some (by first | omega | decide | (simp; done) | (simp <;> omega))) ?_
      rintro ⟨gw, rfl⟩
      refine rr ?_
      exact w_rgo (Sum.inl (s + 1)) [0, 0, 0, 0] (i := 1) rfl rfl rfl (by show s + 1 = (pre ++ [_]).length; simp [hs])
    · intro D s hs
      rw [hall, esL_len] at hs
      subst hs
      refine rr ?_
      refine weM1 p [2, 2, 2, 5] trivial (hv := ?_)
      show Value.bool ((O.length : Int) == (O.length : Int)) = _
      simp
end Go.Proofs.Ytdjjlpgphkbehaa

/- ScopeOrder: the walk. -/
import Derived.Test.YtdjjlpgphkbehaaSd10
import Derived.Test.YtdjjlpgphkbehaaSd3
import Derived.Test.YtdjjlpgphkbehaaSd4
import Derived.Test.YtdjjlpgphkbehaaSxJ
namespace Go.Proofs.Ytdjjlpgphkbehaa
open Go Go.Sx Go.Sx.Chunk
set_option linter.unusedVariables false
set_option linter.unusedSimpArgs false

set_option maxHeartbeats 8000000 in
theorem order_spec (na : Option Addr) (n nc most : Nat) (hmost : most < 256) (names : List ByteArray) (hn : n = names.length) :
    FnC (α := Unit) Try.prog 6 [.slice na n nc, .int .u8 (most : Int)] [] [rng na (strC names)] (fun _ => .bool true) (fun _ => []) (fun _ => True) := by
  refine fn_introM Try.func6 Try.ntmps6 rfl rfl rfl (fun w0 => ?_)
  try simp only [List.cons_append, List.nil_append, List.append_nil]
  refine rr ?_
  intro b3 _
  refine rr ?_
  intro b4 _
  refine rr ?_
  intro b5 _
  refine w_turn (fun w hw => ((hw.row_nil 3 1).row_nil 51 2).sub [2, 0, 0, 0, 0, 0] (A := tbH b5 [] [] ⟨none, 0, none, 0⟩ ++ [blk b4 [.bool false] 4, blk b3 [.int .u8 (most : Int)] 5, rng na (strC names)]) rfl) ?_
  refine rr ?_
  refine ca [0, 0, 0] (openC b5 _ [] [] [0] (by decide +kernel) rfl) ?_
  intro x hx
  try simp only [List.cons_append, List.nil_append, List.append_nil]
  refine rr ?_
  intro b6 _
  refine rr ?_
  refine w_turn (fun w hw => (hw.row_nil 9 1).sub [1, 1, 1, 1, 0, 0, 0, 0] (A := blk b6 [.slice none 0 0] 22 :: tbH b5 [] [0] x ++ [row none 0 9 1 0 [], blk b4 [.bool false] 4, blk b3 [.int .u8 (most : Int)] 5, rng na (strC names)]) rfl) ?_
  refine w_loop (α := Nat × List (ByteArray × Int) × Cp × Option Addr × Nat) (fun y => [(0, .slice na n nc), (3, ptrV b3), (4, ptrV b4), (5, ptrV b5), (6, ptrV b6), (7, .int .i64 (y.1 : Int))])
    (fun y => blk b6 [.slice y.2.2.2.1 y.2.1.length y.2.2.2.2] 22 :: tbH b5 y.2.1 [0] y.2.2.1 ++ [row y.2.2.2.1 y.2.2.2.2 9 1 y.2.1.length (strC (y.2.1.map Prod.fst)), blk b4 [.bool false] 4, blk b3 [.int .u8 (most : Int)] 5, rng na (strC names)])
    (fun y => y.1 ≤ n ∧ y.1 ≤ 30 ∧ y.2.1.length ≤ y.1 ∧ ordE y.2.1) (fun y => n - y.1) (0, [], x, none, 0) ⟨rfl, rfl, rfl, rfl, rfl, rfl, trivial⟩ rfl ⟨Nat.zero_le _, Nat.zero_le _, Nat.zero_le _, ord_nil⟩ ?_
  rintro ⟨k, es, y, wa, wc⟩ ⟨hk, hk30, hes, hord⟩ K1 hK1
  dsimp only at hk hk30 hes hord ⊢
  simp only [List.cons_append]
  by_cases hlt : k < n ∧ k < 30
  · obtain ⟨hkn, hk3⟩ := hlt
    have hsl := strC_len names
    refine w_use (fun w hw => (hw.pick 7 rfl).rng_some (by first | omega | decide | (simp; done) | (simp <;> omega))) ?_
    rintro ⟨g1, rfl⟩
    have hc : (strC names)[(k : Int).toNat * 1]? = some (.string names[k]) := by
      rw [show (k : Int).toNat * 1 = k by omega]; exact strC_get names k (by omega)
    refine rr ?_
    refine dr [0, 1, 2, 3, 4, 5, 6] [3, 4] [7, 0] ?_
    refine rr ?_
    cases hd : defOk es [0] names[k] with
    | true =>
      refine cad [1, 1, 1] (defineC b5 _ es _ [0] names[k] es.length true ⟨by omega, by simp, by simp⟩ hd rfl) ?_
      intro x hx
      try simp only [List.cons_append, List.nil_append, List.append_nil]
      have hde : defE es [0] names[k] (es.length : Int) = es ++ [(names[k], (es.length : Int))] := by unfold defE; rw [hd]; rfl
      rw [hde]
      refine rr ?_
      refine dr [0, 1, 2, 3, 4, 5, 6, 7] [0, 4] [3, 7] ?_
      refine rr ?_
      intro b7 _
      refine rr ?_
      rintro ⟨a1, c1⟩ ⟨hc1, _⟩
      refine rr ?_
      refine w_sub [0, 1, 1, 1, 0, 0, 0, 0] rfl ?_
      refine w_round hK1 (k + 1, es ++ [(names[k], (es.length : Int))], x, a1, c1) ⟨by show k + 1 ≤ n; omega, by show k + 1 ≤ 30; omega, by show (es ++ [(names[k], (es.length : Int))]).length ≤ k + 1; simp; omega, ord_def hord hd⟩ (by show n - (k + 1) < n - k; omega) ?_ ⟨rfl, rfl, rfl, rfl, rfl, ?_, trivial⟩
      · simp [strC, tbH]
      · rfl
    | false =>
      refine cad [1, 1, 1] (defineC b5 _ es _ [0] names[k] es.length false ⟨by omega, by simp, by simp⟩ hd rfl) ?_
      intro x hx
      try simp only [List.cons_append, List.nil_append, List.append_nil]
      have hde : defE es [0] names[k] (es.length : Int) = es := by unfold defE; rw [hd]; rfl
      rw [hde]
      refine rr ?_
      refine w_sub [3, 0, 0, 0, 0, 0, 0, 0] rfl ?_
      refine w_round hK1 (k + 1, es, x, wa, wc) ⟨by show k + 1 ≤ n; omega, by show k + 1 ≤ 30; omega, by show es.length ≤ k + 1; omega, hord⟩ (by show n - (k + 1) < n - k; omega) rfl ⟨rfl, rfl, rfl, rfl, rfl, ?_, trivial⟩
      rfl
  · have hcase : (k < n ∧ ¬ k < 30) ∨ ¬ k < n := by omega
    have hel : es.length ≤ 30 := by omega
    rcases hcase with ⟨hkn, h30⟩ | hkn
    all_goals
      refine rr ?_
      intro b8 _
      refine rr ?_
      refine ca [] (namesF b5) ?_
      intro x hx
      try simp only [List.cons_append, List.nil_append, List.append_nil]
      unfold seqV
      refine rr ?_
      have hok : okT es [0] := ⟨by omega, by simp, by simp⟩
      refine w_rangeFunc (σ := Nat) (τ := Nat) (A := (boxH b5 x :: tbH b5 es [0] y) ++ [blk b8 [.int .i64 ((0 : Nat) : Int)] 3, blk b6 [.slice wa es.length wc] 22, row wa wc 9 1 es.length (strC (es.map Prod.fst)), blk b3 [.int .u8 (most : Int)] 5]) [0, 2, 2, 2, 0, 0, 0, 1]
        (fun s => (boxH b5 x :: tbH b5 es [0] y) ++ [blk b8 [.int .i64 (s : Int)] 3, blk b6 [.slice wa es.length wc] 22, row wa wc 9 1 es.length (strC (es.map Prod.fst)), blk b3 [.int .u8 (most : Int)] 5])
        (fun v => (boxH b5 x :: tbH b5 es [0] y) ++ [blk b8 [.int .i64 (v : Int)] 3, blk b6 [.slice wa es.length wc] 22, row wa wc 9 1 es.length (strC (es.map Prod.fst)), blk b3 [.int .u8 (most : Int)] 5])
        (fun s => s = (ownE es [0]).length ∧ s ≤ most) (fun v => v = most ∧ most < es.length) (fun _ => .exit 2) ?_ rfl rfl rfl (fun _ => rfl) (fun _ => rfl) ?_ ?_
      · intro ly D fn tmps hE
        refine (namesC ly x b5 y es [0] hok (fun s : Nat => recC ly (recL fn tmps #[46, 47] _ _ D) :: [blk b8 [.int .i64 (s : Int)] 3, blk b6 [.slice wa es.length wc] 22, row wa wc 9 1 es.length (strC (es.map Prod.fst)), blk b3 [.int .u8 (most : Int)] 5])
          (fun (v : Nat) => recC ly { recL fn tmps #[46, 47] _ _ D with state := .done, pending := some (.exit 2) } :: [blk b8 [.int .i64 (v : Int)] 3, blk b6 [.slice wa es.length wc] 22, row wa wc 9 1 es.length (strC (es.map Prod.fst)), blk b3 [.int .u8 (most : Int)] 5])
          (fun pre s => s = pre.length ∧ s ≤ most) (fun v => v = most ∧ most < es.length) 0 ?_ (fun _ => rfl) (fun _ => rfl) ⟨rfl, Nat.zero_le _⟩).perm [1, 1, 1, 1, 0, 0, 0, 0, 0] rfl (fun z => by cases z <;> rfl) (fun z => by cases z <;> exact ⟨[4, 0, 0, 0, 0, 0, 0, 0, 0], [], rfl⟩)
        intro pre e rest s hsplit hs
        rw [own0] at hsplit
        obtain ⟨hs1, hs2⟩ := hs
        have hget : es[s]? = some e := by rw [hsplit, hs1]; simp
        have hlt2 : s < es.length := (List.getElem?_eq_some_iff.1 hget).1
        have he2 := hord.1 s e hget
        have hstr : (strC (es.map Prod.fst))[0 + (s : Int).toNat * 1]? = some (.string e.1) := by
          rw [show 0 + (s : Int).toNat * 1 = s by omega]
          simp [strC, hget]
        obtain ⟨en, ev⟩ := e
        obtain rfl : ev = (s : Int) := he2
        dsimp only at hstr
        refine yd_go (ps := [46, 47]) (E0 := [(3, ptrV b3), (4, ptrV b4), (6, ptrV b6), (8, ptrV b8)]) hE ⟨rfl, rfl, rfl, rfl, trivial⟩ rfl rfl (fun w0 => ?_)
        simp only [List.zip_cons_cons, List.zip_nil_right, envPut]
        refine rr ?_
        refine w_begin rfl rfl ?_
        by_cases hsm : s = most
        · subst hsm
          refine rr ?_
          exact w_rleave (Sum.inr s) [0, 0, 0, 0, 0] (.inr ⟨2, rfl, rfl⟩) (i := 0) rfl rfl rfl ⟨rfl, hlt2⟩
        · refine w_use (fun w hw => (hw.pick 3 rfl).row_some (by first | omega | decide | (simp; done) | (simp <;> omega))) ?_
          rintro ⟨gw, rfl⟩
          refine rr ?_
          refine w_rgo (Sum.inl (s + 1)) [0, 0, 0, 0, 0] (i := 1) rfl rfl rfl ⟨by simp [hs1], ?_⟩
          omega
      all_goals
        intro D v hv
        have hv2 : v = min es.length most := by
          have h2 := hv.1
          have h3 := hv.2
          try rw [own0] at h2
          omega
        clear hv
        refine rr ?_
        refine w_loop (α := Nat × Cp) (fun z => [(3, ptrV b3), (4, ptrV b4), (5, ptrV b5), (6, ptrV b6), (8, ptrV b8), (71, .slice wa es.length wc), (72, .int .i64 (es.length : Int)), (73, .int .i64 (z.1 : Int))])
          (fun z => (boxH b5 x :: tbH b5 es [0] z.2) ++ [blk b8 [.int .i64 (v : Int)] 3, blk b6 [.slice wa es.length wc] 22, row wa wc 9 1 es.length (strC (es.map Prod.fst)), blk b3 [.int .u8 (most : Int)] 5, defD D, blk b4 [.bool false] 4, rng na (strC names)])
          (fun z => z.1 ≤ es.length) (fun z => es.length - z.1) (0, y) ⟨rfl, rfl, rfl, rfl, rfl, rfl, rfl, rfl, trivial⟩ rfl (Nat.zero_le _) ?_
        rintro ⟨j, z⟩ hj K2 hK2
        dsimp only at hj ⊢
        simp only [List.cons_append, List.nil_append]
        by_cases hjl : j < es.length
        · obtain ⟨e, hej⟩ : ∃ e, es[j]? = some e := ⟨es[j], by simp [hjl]⟩
          have hfe := ord_find hord hej
          have hstr2 : (strC (es.map Prod.fst))[0 + (j : Int).toNat * 1]? = some (.string e.1) := by
            rw [show 0 + (j : Int).toNat * 1 = j by omega]
            simp [strC, hej]
          refine w_use (fun w hw => (hw.pick 6 rfl).row_some (by first | omega | decide | (simp; done) | (simp <;> omega))) ?_
          rintro ⟨gw, rfl⟩
          refine rr ?_
          refine ca [1, 1, 1] (findC b5 z es [0] e.1 ((j : Int), 1, true) hok hfe) ?_
          intro x hx
          try simp only [List.cons_append, List.nil_append, List.append_nil]
          unfold findV
          dsimp only
          refine rr ?_
          refine w_sub [3, 0, 0, 0, 0, 0, 0, 0, 0, 0, 0] rfl ?_
          exact w_round hK2 (j + 1, x) (by show j + 1 ≤ es.length; omega) (by show es.length - (j + 1) < es.length - j; omega) rfl ⟨rfl, rfl, rfl, rfl, rfl, rfl, rfl, rfl, trivial⟩
        · obtain rfl : j = es.length := by omega
          refine rr ?_
          refine ca [] awake_spec ?_
          intro x hx
          try simp only [List.cons_append, List.nil_append, List.append_nil]
          refine rr ?_
          exact weM1 () [] trivial
theorem order_law (na : Option Addr) (nc : Nat) (names : List ByteArray) (s : Int) (h0 : 0 ≤ s) (h1 : s ≤ 255) :
    FnC (α := Unit) Try.prog 6 [.slice na names.length nc, .int .u8 s] [] [rng na (strC names)] (fun _ => .bool true) (fun _ => []) (fun _ => True) := by
  obtain ⟨m, rfl⟩ : ∃ m : Nat, s = (m : Int) := ⟨s.toNat, by omega⟩
  exact order_spec na names.length nc m (by omega) names rfl
end Go.Proofs.Ytdjjlpgphkbehaa

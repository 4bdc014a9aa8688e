/- ScopePlays: the reference's functions. -/
import Derived.Test.YtdjjlpgphkbehaaSd12
import Derived.Test.YtdjjlpgphkbehaaSxJ
import Derived.Test.YtdjjlpgphkbehaaSd4
namespace Go.Proofs.Ytdjjlpgphkbehaa
open Go Go.Sx Go.Sx.Chunk
set_option linter.unusedVariables false
set_option linter.unusedSimpArgs false

def rowR (a : Option Addr) (c : Nat) (l : List R3) : Chunk := row a c 41 3 l.length (r3C l)
theorem r3C_len (l : List R3) : (r3C l).length = l.length * 3 := flat_len (cells := r3V) (sz := 3) (fun _ => rfl) l
theorem r3C_at {l : List R3} {k : Nat} {e : R3} (h : l[k]? = some e) (j : Nat) (hj : j < 3) (n : Nat) (hn : n = k * 3 + j) : (r3C l)[n]? = (r3V e)[j]? := by
  subst hn; exact flat_at (cells := r3V) (sz := 3) (fun _ => rfl) h hj
theorem r3C_all {l : List R3} {k : Nat} {e : R3} (h : l[k]? = some e) (n : Nat) (hn : n = k * 3) : ((r3C l).drop n).take 3 = r3V e := by
  subst hn; exact flat_get (cells := r3V) (sz := 3) (fun _ => rfl) h
theorem r3C_app (l : List R3) (e : R3) : r3C (l ++ [e]) = r3C l ++ r3V e := by simp [r3C]
theorem some_at {α : Type} {l : List α} {k : Nat} (h : k < l.length) : ∃ e, l[k]? = some e := ⟨l[k], by simp [h]⟩
theorem filt_step {α : Type} {p : α → Bool} {l : List α} {k : Nat} {e : α} (h : l[k]? = some e) : (l.take (k + 1)).filter p = (l.take k).filter p ++ if p e then [e] else [] := by
  rw [List.take_add_one, h, List.filter_append]
  by_cases hp : p e <;> simp [hp]

set_option maxHeartbeats 4000000 in
theorem closedC (a : Option Addr) (c : Nat) (l : List R3) (d : Nat) (hl : l.length ≤ 1000) :
    FnC Try.prog 13 [.slice a l.length c, .int .i64 (d : Int)] [rowR a c l] [] (fun x : Option Addr × Nat => .slice x.1 (clsL l d).length x.2) (fun x => [rowR x.1 x.2 (clsL l d)]) (fun _ => True) := by
  refine fn_intro Try.func13 Try.ntmps13 rfl rfl rfl (fun w0 => ?_)
  try simp only [List.cons_append, List.nil_append, List.append_nil]
  unfold rowR
  refine w_turn (fun w hw => hw.row_nil 41 3) ?_
  refine rr ?_
  refine w_loop (α := Nat × Option Addr × Nat) (fun x => [(0, .slice a l.length c), (1, .int .i64 (d : Int)), (5, .slice x.2.1 (clsL (l.take x.1) d).length x.2.2), (6, .int .i64 (x.1 : Int))])
    (fun x => [row x.2.1 x.2.2 41 3 (clsL (l.take x.1) d).length (r3C (clsL (l.take x.1) d)), row a c 41 3 l.length (r3C l)]) (fun x => x.1 ≤ l.length) (fun x => l.length - x.1) (0, none, 0) ⟨rfl, rfl, rfl, rfl, trivial⟩ rfl (Nat.zero_le _) ?_
  rintro ⟨k, ra, rc⟩ hk K1 hK1
  dsimp only at hk ⊢
  by_cases hlt : k < l.length
  · obtain ⟨e, he⟩ := some_at hlt
    have h2 : (r3C l)[0 + (k : Int).toNat * 3 + 2]? = some (.int .i64 (e.2.2 : Int)) := r3C_at he 2 (by decide) _ (by omega)
    have h3 : ((r3C l).drop (0 + (k : Int).toNat * 3)).take 3 = [.string e.1, .int .i64 e.2.1, .int .i64 (e.2.2 : Int)] := r3C_all he _ (by omega)
    have hll := r3C_len l
    have hout : (clsL (l.take k) d).length ≤ k := by
      have := List.length_filter_le (fun e : R3 => decide (e.2.2 < d)) (l.take k)
      simp only [List.length_take] at this
      show (List.filter _ _).length ≤ k
      omega
    have hstep : clsL (l.take (k + 1)) d = clsL (l.take k) d ++ if decide (e.2.2 < d) then [e] else [] := filt_step he
    refine w_use (fun w hw => (hw.pick 1 rfl).row_some (by first | omega | decide | (simp; done) | (simp <;> omega))) ?_
    rintro ⟨g1, rfl⟩
    by_cases hc : e.2.2 < d
    · rw [decide_eq_true hc] at hstep
      rw [if_pos rfl] at hstep
      refine rr ?_
      intro b7 _
      refine rr ?_
      rintro ⟨a1, c1⟩ ⟨hc1, _⟩
      refine rr ?_
      have hr3 : r3C (clsL (l.take k) d ++ [e]) = r3C (clsL (l.take k) d) ++ [.string e.1, .int .i64 e.2.1, .int .i64 (e.2.2 : Int)] := r3C_app _ _
      refine w_sub [0, 0] rfl ?_
      exact w_round hK1 (k + 1, a1, c1) (by show k + 1 ≤ l.length; omega) (by show l.length - (k + 1) < l.length - k; omega) (by dsimp only; rw [hstep, hr3, List.length_append]; rfl) ⟨rfl, rfl, by dsimp only; rw [hstep, List.length_append]; rfl, rfl, trivial⟩
    · rw [decide_eq_false hc] at hstep
      rw [if_neg (by decide), List.append_nil] at hstep
      refine rr ?_
      refine w_sub [0, 0] rfl ?_
      exact w_round hK1 (k + 1, ra, rc) (by show k + 1 ≤ l.length; omega) (by show l.length - (k + 1) < l.length - k; omega) (by dsimp only; rw [hstep]) ⟨rfl, rfl, by dsimp only; rw [hstep]; rfl, rfl, trivial⟩
  · obtain rfl : k = l.length := by omega
    rw [List.take_length]
    refine rr ?_
    exact we (ra, rc) [0] trivial
theorem best_step {l : List R3} {name : ByteArray} {k : Nat} {e : R3} (he : l[k]? = some e) : bestF l name (k + 1) = if e.1 = name ∧ (bestF l name k < 0 ∨ (l.getD (bestF l name k).toNat r3d).2.2 < e.2.2) then (k : Int) else bestF l name k := by
  have hg : l.getD k r3d = e := by simp [he]
  simp only [bestF, hg]
set_option maxHeartbeats 4000000 in
theorem bestC (a : Option Addr) (c : Nat) (l : List R3) (name : ByteArray) (hl : l.length ≤ 1000) :
    FnC (α := Unit) Try.prog 14 [.slice a l.length c, .string name] [rowR a c l] [] (fun _ => .int .i64 (bestF l name l.length)) (fun _ => [rowR a c l]) (fun _ => True) := by
  refine fn_intro Try.func14 Try.ntmps14 rfl rfl rfl (fun w0 => ?_)
  try simp only [List.cons_append, List.nil_append, List.append_nil]
  unfold rowR
  refine rr ?_
  refine w_loop (α := Nat) (fun x => [(0, .slice a l.length c), (1, .string name), (5, .int .i64 (bestF l name x)), (6, .int .i64 (x : Int))])
    (fun x => [row a c 41 3 l.length (r3C l)]) (fun x => x ≤ l.length) (fun x => l.length - x) 0 ⟨rfl, rfl, rfl, rfl, trivial⟩ rfl (Nat.zero_le _) ?_
  intro k hk K1 hK1
  have hb := best_lt l name k
  by_cases hlt : k < l.length
  · obtain ⟨e, he⟩ := some_at hlt
    have h0 : (r3C l)[0 + (k : Int).toNat * 3 + 0]? = some (.string e.1) := r3C_at he 0 (by decide) _ (by omega)
    have h2 : (r3C l)[0 + (k : Int).toNat * 3 + 2]? = some (.int .i64 (e.2.2 : Int)) := r3C_at he 2 (by decide) _ (by omega)
    have hll := r3C_len l
    have hstep := best_step (name := name) he
    refine w_use (fun w hw => (hw.pick 0 rfl).row_some (by first | omega | decide | (simp; done) | (simp <;> omega))) ?_
    rintro ⟨g1, rfl⟩
    by_cases hm : e.1 = name
    · have hm1 : decide (e.1 = name) = true := decide_eq_true hm
      generalize bestF l name k = bb at hb hstep ⊢
      by_cases hn : bb < 0
      · rw [if_pos ⟨hm, .inl hn⟩] at hstep
        refine rr ?_
        refine dr [0, 1, 2, 3, 4, 5, 6, 7, 8, 9, 10, 11, 12, 13, 14, 15, 16, 17, 18, 19, 20, 21, 22, 23] [4, 15, 20] [0, 0, 0] ?_
        refine rr ?_
        exact w_round hK1 (k + 1) (by show k + 1 ≤ l.length; omega) (by show l.length - (k + 1) < l.length - k; omega) rfl ⟨rfl, rfl, by rw [hstep]; rfl, rfl, trivial⟩
      · obtain ⟨nb, rfl⟩ : ∃ nb : Nat, bb = (nb : Int) := ⟨bb.toNat, by omega⟩
        obtain ⟨eb, heb⟩ := some_at (l := l) (k := nb) (by omega)
        have hgb : l.getD (nb : Int).toNat r3d = eb := by simp [heb]
        have h2b : (r3C l)[0 + (nb : Int).toNat * 3 + 2]? = some (.int .i64 (eb.2.2 : Int)) := r3C_at heb 2 (by decide) _ (by omega)
        rw [hgb] at hstep
        by_cases hgt : eb.2.2 < e.2.2
        · rw [if_pos ⟨hm, .inr hgt⟩] at hstep
          refine rr ?_
          refine dr [0, 1, 2, 3, 4, 5, 6, 7, 8, 9, 10, 11, 12, 13, 14, 15, 16, 17, 18, 19, 20, 21, 22, 23] [4, 15, 20] [0, 0, 0] ?_
          refine rr ?_
          exact w_round hK1 (k + 1) (by show k + 1 ≤ l.length; omega) (by show l.length - (k + 1) < l.length - k; omega) rfl ⟨rfl, rfl, by rw [hstep]; rfl, rfl, trivial⟩
        · rw [if_neg (fun h => h.2.elim (fun h => hn h) (fun h => hgt h))] at hstep
          refine rr ?_
          refine dr [0, 1, 2, 3, 4, 5, 6, 7, 8, 9, 10, 11, 12, 13, 14, 15, 16, 17, 18, 19, 20, 21, 22, 23] [4, 15, 20] [0, 0, 0] ?_
          refine rr ?_
          exact w_round hK1 (k + 1) (by show k + 1 ≤ l.length; omega) (by show l.length - (k + 1) < l.length - k; omega) rfl ⟨rfl, rfl, by rw [hstep]; rfl, rfl, trivial⟩
    · have hm1 : decide (e.1 = name) = false := decide_eq_false hm
      rw [if_neg (fun h => hm h.1)] at hstep
      refine rr ?_
      refine dr [0, 1, 2, 3, 4, 5, 6, 7, 8, 9, 10, 11, 12, 13, 14, 15, 16, 17, 18, 19, 20, 21, 22, 23] [4, 15, 20] [0, 0, 0] ?_
      refine rr ?_
      exact w_round hK1 (k + 1) (by show k + 1 ≤ l.length; omega) (by show l.length - (k + 1) < l.length - k; omega) rfl ⟨rfl, rfl, by rw [hstep]; rfl, rfl, trivial⟩
  · obtain rfl : k = l.length := by omega
    refine rr ?_
    exact we () [0] trivial
end Go.Proofs.Ytdjjlpgphkbehaa

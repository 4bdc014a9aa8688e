/- The names of a scope: the iterator. -/
import Derived.Test.YtdjjlpgphkbehaaSd2
namespace Go.Proofs.Ytdjjlpgphkbehaa
open Go Go.Sx Go.Sx.Chunk
set_option linter.unusedVariables false
set_option linter.unusedSimpArgs false

/-- The entries of the innermost scope. -/
def ownE (es : List (ByteArray × Int)) (bs : List Nat) : List (ByteArray × Int) := if bs.length = 0 then [] else es.drop (bs.getLastD 0)
def seqV (c : Nat) : Value := .func (.func 18) #[] #[.pointer (some ⟨c, 0, none⟩)]
def boxH (b c : Nat) : Chunk := blk c [ptrV b] 43
theorem namesF (b : Nat) : FnC Try.prog 17 [ptrV b] [] [] (fun (c : Nat) => seqV c) (fun c => [boxH b c]) (fun _ => True) := by
  refine fn_intro Try.func17 Try.ntmps17 rfl rfl rfl (fun w0 => ?_)
  try simp only [List.cons_append, List.nil_append, List.append_nil]
  unfold ptrV
  refine rr ?_
  intro c _
  refine rr ?_
  exact we c [0] trivial
set_option maxHeartbeats 4000000 in
theorem namesC {σ τ : Type} (ly c b : Nat) (p : Cp) (es : List (ByteArray × Int)) (bs : List Nat) (hok : okT es bs) (Hb : σ → List Chunk) (Hx : τ → List Chunk) (φ : List (ByteArray × Int) → σ → Prop) (ψ : τ → Prop) (s0 : σ)
    (hy : ∀ pre e rest s, ownE es bs = pre ++ e :: rest → φ pre s → YdC Try.prog ly [.string e.1, .int .i64 e.2] (Hb s) (fun z : σ ⊕ τ => .bool z.isLeft) (Sum.elim Hb Hx) (Sum.elim (φ (pre ++ [e])) ψ))
    (hbw : ∀ s, allW (Hb s) = true) (hxw : ∀ t, allW (Hx t) = true) (h0 : φ [] s0) :
    FnC Try.prog 18 [.func (.yield ly) #[] #[], .pointer (some ⟨c, 0, none⟩)] ((boxH b c :: tbH b es bs p) ++ Hb s0) [] (fun _ : σ ⊕ τ => .tuple #[])
      (Sum.elim (fun s => (boxH b c :: tbH b es bs p) ++ Hb s) (fun t => (boxH b c :: tbH b es bs p) ++ Hx t)) (Sum.elim (φ (ownE es bs)) ψ) := by
  refine fn_intro Try.func18 Try.ntmps18 rfl rfl rfl (fun w0 => ?_)
  try simp only [List.cons_append, List.nil_append, List.append_nil]
  unfold boxH tbH ptrV
  simp only [List.cons_append, List.nil_append]
  rcases List.eq_nil_or_concat bs with rfl | ⟨bs0, cc, rfl⟩
  · refine rr ?_
    refine ca [1] (depth_spec b 0 _ 27 p.ab ([] : List Nat).length p.cb rfl) ?_
    intro x hx
    try simp only [List.cons_append, List.nil_append, List.append_nil]
    refine rr ?_
    refine w_turn (fun w hw => hw.pick 1 rfl) ?_
    exact weE (.inl s0) h0
  · simp only [List.concat_eq_append] at hok hy ⊢
    have hlen : (bs0 ++ [cc]).length = bs0.length + 1 := by simp
    rw [hlen]
    refine rr ?_
    refine ca [1] (depth_spec b 0 _ 27 p.ab (bs0.length + 1) p.cb rfl) ?_
    intro x hx
    try simp only [List.cons_append, List.nil_append, List.append_nil]
    refine rr ?_
    have hcc : cc ≤ es.length := hok.2.2 cc (by simp)
    have hes : es.length ≤ 100000 := hok.1
    have hbs0 : bs0.length + 1 ≤ 100000 := by have := hok.2.1; simp at this; omega
    have hlast : (natC (bs0 ++ [cc]))[0 + (((bs0.length + 1 : Nat) : Int) - 1).toNat * 1]? = some (.int .i64 (cc : Int)) := by
      rw [show 0 + (((bs0.length + 1 : Nat) : Int) - 1).toNat * 1 = bs0.length by omega]
      simp [natC]
    refine w_use (fun w hw => (hw.pick 3 rfl).row_some (by omega)) ?_
    rintro ⟨gb, hgb⟩
    rw [hgb]
    refine w_use (fun w hw => (hw.pick 2 rfl).row_cap) ?_
    intro hcap
    refine dr [0, 1, 2, 3, 4, 5, 6, 7, 8, 15, 9, 10, 11, 12, 13, 14] [0, 3, 4, 7, 8, 12] [0, 1, 3] ?_
    refine rr ?_
    refine cad [0] (depth_spec b 0 _ 27 (some ⟨gb, 0, none⟩) (bs0.length + 1) p.cb rfl) ?_
    intro x hx
    try simp only [List.cons_append, List.nil_append, List.append_nil]
    refine rr ?_
    have hown : ownE es (bs0 ++ [cc]) = es.drop cc := by unfold ownE; rw [if_neg (by simp)]; simp
    rw [hown] at hy ⊢
    have e1 : (none.getD (es.length : Int)).toNat - ((some (cc : Int)).getD 0).toNat = es.length - cc := by simp
    have e2 : sliceV p.ae p.ce 2 ((some (cc : Int)).getD 0).toNat (none.getD (es.length : Int)).toNat = .slice (if p.ce = cc then p.ae else p.ae.map (·.add (cc * 2))) (es.length - cc) (p.ce - cc) := by simp [sliceV]
    rw [e1, e2]
    generalize hsa : (if p.ce = cc then p.ae else p.ae.map (·.add (cc * 2))) = sa
    refine w_loop (α := Nat × σ) (fun x => [(0, .func (.yield ly) #[] #[]), (21, .slice sa (es.length - cc) (p.ce - cc)), (22, .int .i64 ((es.length - cc : Nat) : Int)), (23, .int .i64 (x.1 : Int))])
      (fun x => [blk b [.slice p.ae es.length p.ce, .slice (some ⟨gb, 0, none⟩) (bs0.length + 1) p.cb] 27, blk c [.pointer (some ⟨b, 0, none⟩)] 43, row p.ae p.ce 51 2 es.length (entC es), row (some ⟨gb, 0, none⟩) p.cb 3 1 (bs0.length + 1) (natC (bs0 ++ [cc]))] ++ Hb x.2)
      (fun x => x.1 ≤ es.length - cc ∧ φ ((es.drop cc).take x.1) x.2) (fun x => es.length - cc - x.1) (0, s0) ⟨rfl, rfl, rfl, rfl, trivial⟩ rfl ⟨Nat.zero_le _, h0⟩ ?_
    rintro ⟨k, s⟩ ⟨hk, hs⟩ K1 hK1
    dsimp only at hk hs ⊢
    simp only [List.cons_append, List.nil_append]
    by_cases hlt : k < es.length - cc
    · obtain ⟨e, he⟩ : ∃ e, (es.drop cc)[k]? = some e := ⟨(es.drop cc)[k]'(by simp; omega), by simp [show k < (es.drop cc).length by simp; omega]⟩
      have hsplit : es.drop cc = (es.drop cc).take k ++ e :: (es.drop cc).drop (k + 1) := by
        obtain ⟨hi, hb⟩ := List.getElem?_eq_some_iff.1 he
        rw [← hb, ← List.drop_eq_getElem_cons hi, List.take_append_drop]
      have hyd := hy _ e _ s hsplit hs
      refine w_use (fun w hw => (hw.pick 2 rfl).row_some (by omega)) ?_
      rintro ⟨ge, hge⟩
      rw [hge, if_neg (by omega)] at hsa
      simp only [Option.map_some, addr_add] at hsa
      subst hsa
      rw [hge] at hK1 ⊢
      have hent : ((entC es).drop (0 + cc * 2 + (k : Int).toNat * 2)).take 2 = [.string e.1, .int .i64 e.2] := by
        have := flat_get (cells := fun e : ByteArray × Int => [Value.string e.1, .int .i64 e.2]) (sz := 2) (fun _ => rfl) (l := es) (k := cc + k) (a := e) (by rw [← List.getElem?_drop]; exact he)
        rw [← this]
        congr 2; omega
      have hel := entC_len es
      refine rr ?_
      intro t4 _
      refine rn ?_
      refine w_regionYn 5 rfl rfl ?_
      refine rr ?_
      refine w_turn (fun w hw => hw.drop) ?_
      refine w_yieldT (R := [_, _, _, _]) hyd rfl rfl rfl ?_ rfl rfl ?_
      · intro z; cases z with
        | inl s => exact hbw s
        | inr t => exact hxw t
      intro z hz
      cases z with
      | inl s' =>
        simp only [Sum.elim_inl, Sum.isLeft_inl] at hz ⊢
        refine rr ?_
        refine w_round hK1 (k + 1, s') ⟨by show k + 1 ≤ es.length - cc; omega, ?_⟩ (by show es.length - cc - (k + 1) < es.length - cc - k; omega) ?_ ⟨rfl, rfl, rfl, rfl, trivial⟩
        · show φ ((es.drop cc).take (k + 1)) s'
          rw [List.take_add_one, he]; exact hz
        · rfl
      | inr t' =>
        simp only [Sum.elim_inr, Sum.isLeft_inr] at hz ⊢
        refine rr ?_
        refine w_turn (fun w hw => hw.pick 1 rfl) ?_
        exact weE (.inr t') hz
    · obtain rfl : k = es.length - cc := by omega
      rw [List.take_of_length_le (by simp)] at hs
      refine rr ?_
      refine w_turn (fun w hw => hw.pick 1 rfl) ?_
      exact weE (.inl s) hs
end Go.Proofs.Ytdjjlpgphkbehaa

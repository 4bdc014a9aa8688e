/- Objects: which patches are right; names that are unlike. -/
import Derived.Test.YtgmegfmabkkaoaaOb1
namespace Go.Proofs.Ytgmegfmabkkaoaa
open Go Go.Sx Go.Sx.Chunk
set_option linter.unusedVariables false
set_option linter.unusedSimpArgs false

def goodP (nC nI : Nat) (p : Pa) : Bool := (if p.kind = 2 then decide (0 ≤ p.n) && decide (p.n < (nI : Int)) else decide (p.n = 0)) && (decide (0 ≤ p.pl) && (decide (p.pl < (nC : Int)) && (decide (0 ≤ p.kind) && decide (p.kind < 5))))
set_option maxHeartbeats 8000000 in
theorem rightPC (o : Ob) (p : Pa) : FnC (α := Unit) Try.prog 32 [obG o, paG p] [] [] (fun _ => .bool (goodP o.code.length o.imps.length p)) (fun _ => []) (fun _ => True) := by
  unfold obG paG goodP
  generalize hnC : o.code.length = nC
  generalize hnI : o.imps.length = nI
  refine fn_intro Try.func32 Try.ntmps32 rfl rfl rfl (fun w0 => ?_)
  try simp only [List.cons_append, List.nil_append, List.append_nil]
  refine rr ?_
  intro b _
  refine rr ?_
  intro b1 _
  by_cases hk : p.kind = 2
  · rw [if_pos hk]
    by_cases h1 : 0 ≤ p.n
    · by_cases h2 : p.n < (nI : Int)
      · by_cases h3 : 0 ≤ p.pl
        · by_cases h4 : p.pl < (nC : Int)
          · refine rr ?_
            refine we () [] trivial (hv := ?_)
            simp [packR, hk, h1, h2, h3, h4]
          · refine rr ?_
            refine we () [] trivial (hv := ?_)
            simp [packR, hk, h1, h2, h3, h4]
            try omega
        · refine rr ?_
          refine we () [] trivial (hv := ?_)
          simp [packR, hk, h1, h2, h3]
          try omega
      · refine rr ?_
        refine we () [] trivial (hv := ?_)
        simp [packR, hk, h1, h2]
        try omega
    · refine rr ?_
      refine we () [] trivial (hv := ?_)
      simp [packR, hk, h1]
      try omega
  · rw [if_neg hk]
    by_cases h1 : p.n = 0
    · by_cases h3 : 0 ≤ p.pl
      · by_cases h4 : p.pl < (nC : Int)
        · by_cases h5 : 0 ≤ p.kind
          all_goals
            refine rr ?_
            refine we () [] trivial (hv := ?_)
            simp [packR, h1, h3, h4, h5]
            try omega
        · refine rr ?_
          refine we () [] trivial (hv := ?_)
          simp [packR, h1, h3, h4]
          try omega
      · refine rr ?_
        refine we () [] trivial (hv := ?_)
        simp [packR, h1, h3]
        try omega
    · refine rr ?_
      refine we () [] trivial (hv := ?_)
      simp [packR, h1]
theorem wrongPC (o : Ob) (b0 : Nat) (p : Pa) : FnC (α := Unit) Try.prog 31 [paG p, .pointer (some ⟨b0, 0, none⟩)] [] [rng (some ⟨b0, 0, none⟩) (obV o)] (fun _ => .bool (!goodP o.code.length o.imps.length p)) (fun _ => []) (fun _ => True) := by
  unfold paG
  refine fn_intro Try.func31 Try.ntmps31 rfl rfl rfl (fun w0 => ?_)
  try simp only [List.cons_append, List.nil_append, List.append_nil]
  unfold obV
  refine rr ?_
  intro b _
  refine rr ?_
  refine ca [] (rightPC o p) ?_
  intro x hx
  try simp only [List.cons_append, List.nil_append, List.append_nil]
  refine rr ?_
  exact we () [] trivial
set_option maxHeartbeats 4000000 in
theorem indexPC (o : Ob) (b0 : Nat) (a : Option Addr) (c : Nat) (l : List Pa) (hl : l.length ≤ 8796093021952) :
    FnC Try.prog 53 [.slice a l.length c, .func (.func 31) #[] #[.pointer (some ⟨b0, 0, none⟩)]] [] [rng a (paC l), rng (some ⟨b0, 0, none⟩) (obV o)] (fun v : Int => .int .i64 v) (fun _ => []) (fun v => decide (0 ≤ v) = l.any (fun p => !goodP o.code.length o.imps.length p)) := by
  refine fn_intro Try.func53 Try.ntmps53 rfl rfl rfl (fun w0 => ?_)
  try simp only [List.cons_append, List.nil_append, List.append_nil]
  refine rr ?_
  refine w_loop (α := Nat) (fun k => [(0, .slice a l.length c), (1, .func (.func 31) #[] #[.pointer (some ⟨b0, 0, none⟩)]), (7, .int .i64 (l.length : Int)), (8, .int .i64 (k : Int))]) (fun k => [rng a (paC l), rng (some ⟨b0, 0, none⟩) (obV o)]) (fun k => k ≤ l.length ∧ (l.take k).any (fun p => !goodP o.code.length o.imps.length p) = false) (fun k => l.length - k) 0 ⟨rfl, rfl, rfl, rfl, trivial⟩ rfl ⟨Nat.zero_le _, by simp⟩ ?_
  rintro k ⟨hk, hany⟩ K1 hK1
  by_cases hlt : k < l.length
  · obtain ⟨e, he⟩ := some_at hlt
    have hall : ((paC l).drop ((k : Int).toNat * 3)).take 3 = [.int .i64 e.pl, .int .i64 e.kind, .int .i64 e.n] := paC_all he _ (by omega)
    have hlen := paC_len l
    refine w_use (fun w hw => (hw.pick 0 rfl).rng_some (by first | omega | decide | (simp; done) | (simp <;> omega))) ?_
    rintro ⟨g1, rfl⟩
    refine rr ?_
    refine cav [] (wrongPC o b0 e) ?_
    intro x hx
    try simp only [List.cons_append, List.nil_append, List.append_nil]
    cases hg : goodP o.code.length o.imps.length e with
    | true =>
      refine rr ?_
      exact w_round hK1 (k + 1) ⟨by omega, any_step he (by rw [hg]; rfl) hany⟩ (by show l.length - (k + 1) < l.length - k; omega) rfl ⟨rfl, rfl, rfl, rfl, trivial⟩
    | false =>
      refine rr ?_
      refine we (k : Int) [] (hx := ?_)
      rw [any_hit he (by rw [hg]; rfl)]
      simp
  · obtain rfl : k = l.length := by omega
    rw [List.take_length] at hany
    refine rr ?_
    refine we (-1) [] (hx := ?_)
    rw [hany]
    rfl
theorem containsPC (o : Ob) (b0 : Nat) (a : Option Addr) (c : Nat) (l : List Pa) (hl : l.length ≤ 8796093021952) :
    FnC (α := Unit) Try.prog 30 [.slice a l.length c, .func (.func 31) #[] #[.pointer (some ⟨b0, 0, none⟩)]] [] [rng a (paC l), rng (some ⟨b0, 0, none⟩) (obV o)] (fun _ => .bool (l.any (fun p => !goodP o.code.length o.imps.length p))) (fun _ => []) (fun _ => True) := by
  refine fn_intro Try.func30 Try.ntmps30 rfl rfl rfl (fun w0 => ?_)
  try simp only [List.cons_append, List.nil_append, List.append_nil]
  refine rr ?_
  refine ca [] (indexPC o b0 a c l hl) ?_
  intro x hx
  try simp only [List.cons_append, List.nil_append, List.append_nil]
  refine rr ?_
  refine we () [] trivial (hv := ?_)
  rw [← hx]
  rfl

/-- Right, and unlike those ahead. -/
def chkL : List ByteArray → List ByteArray → Bool
  | _, [] => true
  | acc, a :: l => nameF a && (!inL a acc && chkL (acc ++ [a]) l)
def aloneF (l : List ByteArray) : Bool := chkL [] l && decide (l.length ≤ 255)
theorem chkL_step (acc : List ByteArray) {l : List ByteArray} {a : ByteArray} : ∀ {k : Nat}, l[k]? = some a → chkL acc (l.drop k) = (nameF a && (!inL a acc && chkL (acc ++ [a]) (l.drop (k + 1)))) := fun {k} h => by
  obtain ⟨hi, hb⟩ := List.getElem?_eq_some_iff.1 h
  rw [List.drop_eq_getElem_cons hi, hb]
  rfl
theorem take_snoc {α : Type} {l : List α} {k : Nat} {a : α} (h : l[k]? = some a) : l.take (k + 1) = l.take k ++ [a] := by rw [List.take_add_one, h]; rfl
set_option maxHeartbeats 4000000 in
/-- Over what is read alone. -/
theorem aloneC (a : Option Addr) (c : Nat) (l : List ByteArray) (hl : l.length ≤ 8796093021952) (hs : ∀ s ∈ l, s.size ≤ maxLen) :
    FnC (α := Unit) Try.prog 29 [.slice a l.length c] [] [rng a (strC l)] (fun _ => .bool (aloneF l)) (fun _ => []) (fun _ => True) := by
  refine fn_intro Try.func29 Try.ntmps29 rfl rfl rfl (fun w0 => ?_)
  try simp only [List.cons_append, List.nil_append, List.append_nil]
  refine rr ?_
  intro b _
  refine rr ?_
  refine w_turn (fun w hw => ((hw.row_nil 9 1).gen0).sub [2, 1, 0, 0] (A := setH b none none 0 [] ++ [rng a (strC l)]) rfl) ?_
  refine rr ?_
  refine w_loop (α := Nat × Option Nat × Option Addr × Nat) (fun x => [(0, .slice a l.length c), (3, .pointer (some ⟨b, 0, none⟩)), (6, .slice a l.length c), (7, .int .i64 (l.length : Int)), (8, .int .i64 (x.1 : Int))]) (fun x => setH b x.2.1 x.2.2.1 x.2.2.2 (l.take x.1) ++ [rng a (strC l)]) (fun x => x.1 ≤ l.length ∧ setOk x.2.1 (l.take x.1) ∧ chkL [] l = chkL (l.take x.1) (l.drop x.1)) (fun x => l.length - x.1) (0, none, none, 0) ⟨rfl, rfl, rfl, rfl, rfl, trivial⟩ rfl ⟨Nat.zero_le _, fun _ => rfl, rfl⟩ ?_
  rintro ⟨k, m, oa, oc⟩ ⟨hk, hm, hchk⟩ K1 hK1
  dsimp only at hk hm hchk ⊢
  by_cases hlt : k < l.length
  · obtain ⟨s, he⟩ := some_at hlt
    have hc : (strC l)[(k : Int).toNat * 1]? = some (.string s) := by rw [show (k : Int).toNat * 1 = k by omega]; exact strC_at he
    have hlen := strC_len l
    have hstep := chkL_step (l.take k) he
    have hsz := hs s (List.mem_of_getElem? he)
    refine w_use (fun w hw => (hw.pick 3 rfl).rng_some (by first | omega | decide | (simp; done) | (simp <;> omega))) ?_
    rintro ⟨g1, rfl⟩
    refine rr ?_
    refine ca [] (rightNameC s hsz) ?_
    intro x hx
    try simp only [List.cons_append, List.nil_append, List.append_nil]
    cases hn : nameF s with
    | false =>
      have hf : aloneF l = false := by unfold aloneF; rw [hchk, hstep, hn]; rfl
      rw [hf]
      refine rr ?_
      exact we () [] trivial
    | true =>
      refine rr ?_
      refine ca [0, 0, 0] (setAddC b m oa oc (l.take k) s hm (by simp; omega)) (ho := fun _ => setW) ?_
      intro x hx
      cases hin : inL s (l.take k) with
      | true =>
        have hf : aloneF l = false := by unfold aloneF; rw [hchk, hstep, hn, hin]; rfl
        rw [hf]
        refine rr ?_
        exact we () [] trivial
      | false =>
        rw [hin] at hx
        simp only [if_false, Bool.false_eq_true] at hx ⊢
        rw [← take_snoc he] at hx ⊢
        refine rr ?_
        exact w_round hK1 (k + 1, x.1, x.2.1, x.2.2) ⟨by show k + 1 ≤ l.length; omega, hx, by rw [hchk, hstep, hn, hin, take_snoc he]; rfl⟩ (by show l.length - (k + 1) < l.length - k; omega) rfl ⟨rfl, rfl, rfl, rfl, rfl, trivial⟩
  · obtain rfl : k = l.length := by omega
    rw [List.drop_length] at hchk
    refine rr ?_
    refine we () [] trivial (hv := ?_)
    unfold aloneF
    rw [hchk]
    simp [packR, chkL]
    try omega
end Go.Proofs.Ytgmegfmabkkaoaa

/- ScopeBack: the walk. -/
import Derived.Test.YtdjjlpgphkbehaaSd4
namespace Go.Proofs.Ytdjjlpgphkbehaa
open Go Go.Sx Go.Sx.Chunk
set_option linter.unusedVariables false
set_option linter.unusedSimpArgs false

/-- What the walk asks of plain lists. -/
def BackFacts (outer inner : List ByteArray) (name : ByteArray) : Prop :=
  ∀ es1 es2 r1 r2, defL [0] outer 0 [] = es1 → defL [0, es1.length] inner 100 es1 = es2 → findT es1 [0] name = r1 → findT es2 [0, es1.length] name = r2 →
    clsE es2 [0, es1.length] = es1 ∧ isIn name inner = (r2.2.2 && decide (100 ≤ r2.1)) ∧ (isIn name inner = false → r2.1 = r1.1 ∧ r2.2.2 = r1.2.2)

set_option maxHeartbeats 8000000 in
theorem back_spec (oa ia : Option Addr) (on oc n ic : Nat) (outer inner : List ByteArray) (name : ByteArray) (ho : on = outer.length) (hi : n = inner.length) (hb : outer.length ≤ 30 → inner.length ≤ 30 → BackFacts outer inner name) :
    FnC (α := Unit) Try.prog 3 [.slice oa on oc, .slice ia n ic, .string name] [] [rng oa (strC outer), rng ia (strC inner)] (fun _ => .bool true) (fun _ => []) (fun _ => True) := by
  refine fn_intro Try.func3 Try.ntmps3 rfl rfl rfl (fun w0 => ?_)
  try simp only [List.cons_append, List.nil_append, List.append_nil]
  by_cases h1 : 30 < on
  · refine rr ?_
    refine ca [] awake_spec ?_
    intro x hx
    try simp only [List.cons_append, List.nil_append, List.append_nil]
    refine rr ?_
    exact w_end1 () [] (.inl rfl) rfl rfl rfl rfl trivial
  by_cases h2 : 30 < n
  · refine rr ?_
    refine ca [] awake_spec ?_
    intro x hx
    try simp only [List.cons_append, List.nil_append, List.append_nil]
    refine rr ?_
    exact w_end1 () [] (.inl rfl) rfl rfl rfl rfl trivial
  refine rr ?_
  intro b _
  refine w_turn (fun w hw => ((hw.row_nil 3 1).row_nil 51 2).sub [2, 0, 0, 0, 0] (A := tbH b [] [] ⟨none, 0, none, 0⟩ ++ [rng oa (strC outer), rng ia (strC inner)]) rfl) ?_
  refine rr ?_
  refine ca [0, 0, 0] (openC b _ [] [] [0] (by decide +kernel) rfl) ?_
  intro x hx
  try simp only [List.cons_append, List.nil_append, List.append_nil]
  refine rr ?_
  refine w_loop (α := Nat × Cp) (fun x => [(0, .slice oa on oc), (1, .slice ia n ic), (2, .string name), (7, ptrV b), (35, .slice oa on oc), (36, .int .i64 on), (37, .int .i64 (x.1 : Int))])
    (fun x => tbH b (defL [0] (outer.take x.1) 0 []) [0] x.2 ++ [rng oa (strC outer), rng ia (strC inner)]) (fun x => x.1 ≤ on) (fun x => on - x.1) (0, x) ⟨rfl, rfl, rfl, rfl, rfl, rfl, rfl, trivial⟩ rfl (Nat.zero_le _) ?_
  rintro ⟨k, x⟩ hk K1 hK1
  dsimp only at hk ⊢
  by_cases hkn : k < on
  · refine w_use (fun w hw => (hw.pick 3 rfl).rng_some (by rw [strC_len]; omega)) ?_
    rintro ⟨a, rfl⟩
    have hc : (strC outer)[(k : Int).toNat * 1]? = some (.string outer[k]) := by
      rw [show (k : Int).toNat * 1 = k by omega]; exact strC_get outer k (by omega)
    refine rr ?_
    have hl := defL_len [0] (outer.take k) 0 []
    have hl2 : (outer.take k).length ≤ k := by simp; omega
    refine ca [0, 0, 0] (defineC b _ (defL [0] (outer.take k) 0 []) _ [0] outer[k] k _ ⟨by simp at hl; omega, by simp, by simp⟩ rfl rfl) ?_
    intro x hx
    try simp only [List.cons_append, List.nil_append, List.append_nil]
    refine rr ?_
    refine w_round hK1 (k + 1, x) (by show k + 1 ≤ on; omega) (by show on - (k + 1) < on - k; omega) ?_ ⟨rfl, rfl, rfl, rfl, rfl, rfl, ?_, trivial⟩
    · rw [defL_step _ _ _ _ k (by omega), Int.zero_add]; rfl
    · show some (Value.int IntKind.i64 ((k : Int) + 1)) = _
      rw [show ((k : Int) + 1) = ((k + 1 : Nat) : Int) by omega]
  · obtain rfl : k = on := by omega
    clear hkn hk
    rw [show outer.take k = outer by rw [ho]; simp]
    generalize he1 : defL [0] outer 0 [] = es1
    have hl1 : es1.length ≤ 30 := by rw [← he1]; have := defL_len [0] outer 0 []; simp at this; omega
    refine rr ?_
    refine ca [0, 0, 0] (findC b _ es1 [0] name _ ⟨by omega, by simp, by simp⟩ rfl) ?_
    intro x hx
    try simp only [List.cons_append, List.nil_append, List.append_nil]
    generalize hr1 : findT es1 [0] name = r1
    refine rr ?_
    refine ca [0, 0, 0] (openC b _ es1 [0] [0, es1.length] ⟨by omega, by simp, by simp⟩ rfl) ?_
    intro x hx
    try simp only [List.cons_append, List.nil_append, List.append_nil]
    refine rr ?_
    refine w_loop (α := Nat × Cp) (fun x => [(0, .slice oa k oc), (1, .slice ia n ic), (2, .string name), (7, ptrV b), (10, .int .i64 r1.1), (11, .int .i64 r1.2.1), (12, .bool r1.2.2), (53, .slice ia n ic), (54, .int .i64 n), (55, .int .i64 (x.1 : Int))])
      (fun x => tbH b (defL [0, es1.length] (inner.take x.1) 100 es1) [0, es1.length] x.2 ++ [rng oa (strC outer), rng ia (strC inner)]) (fun x => x.1 ≤ n) (fun x => n - x.1) (0, _) ⟨rfl, rfl, rfl, rfl, rfl, rfl, rfl, rfl, rfl, rfl, trivial⟩ rfl (Nat.zero_le _) ?_
    rintro ⟨m, x⟩ hm K2 hK2
    dsimp only at hm ⊢
    by_cases hmn : m < n
    · refine w_use (fun w hw => (hw.pick 4 rfl).rng_some (by rw [strC_len]; omega)) ?_
      rintro ⟨a, rfl⟩
      have hc : (strC inner)[(m : Int).toNat * 1]? = some (.string inner[m]) := by
        rw [show (m : Int).toNat * 1 = m by omega]; exact strC_get inner m (by omega)
      refine rr ?_
      have hl := defL_len [0, es1.length] (inner.take m) 100 es1
      have hl2 : (inner.take m).length ≤ m := by simp; omega
      refine ca [0, 0, 0] (defineC b _ (defL [0, es1.length] (inner.take m) 100 es1) _ [0, es1.length] inner[m] (100 + (m : Int)) _ ⟨by omega, by simp, by simp; omega⟩ rfl rfl) ?_
      intro x hx
      try simp only [List.cons_append, List.nil_append, List.append_nil]
      refine rr ?_
      refine w_round hK2 (m + 1, x) (by show m + 1 ≤ n; omega) (by show n - (m + 1) < n - m; omega) ?_ ⟨rfl, rfl, rfl, rfl, rfl, rfl, rfl, rfl, rfl, ?_, trivial⟩
      · rw [defL_step _ _ _ _ m (by omega)]; rfl
      · show some (Value.int IntKind.i64 ((m : Int) + 1)) = _
        rw [show ((m : Int) + 1) = ((m + 1 : Nat) : Int) by omega]
    · obtain rfl : m = n := by omega
      clear hmn hm
      rw [show inner.take m = inner by rw [hi]; simp]
      generalize he2 : defL [0, es1.length] inner 100 es1 = es2
      have hl2 : es2.length ≤ 60 ∧ es1.length ≤ es2.length := by rw [← he2]; have := defL_len [0, es1.length] inner 100 es1; omega
      refine rr ?_
      refine ca [0, 0, 0] (findC b _ es2 [0, es1.length] name _ ⟨by omega, by simp, by simp; omega⟩ rfl) ?_
      intro x hx
      try simp only [List.cons_append, List.nil_append, List.append_nil]
      generalize hr2 : findT es2 [0, es1.length] name = r2
      obtain ⟨hb1, hb2, hb3⟩ := hb (by omega) (by omega) es1 es2 r1 r2 he1 he2 hr1 hr2
      refine rr ?_
      refine w_loop (α := Nat) (fun x => [(2, .string name), (7, ptrV b), (10, .int .i64 r1.1), (11, .int .i64 r1.2.1), (12, .bool r1.2.2), (15, .int .i64 r2.1), (16, .int .i64 r2.2.1), (17, .bool r2.2.2), (18, .bool (isIn name (inner.take x))), (71, .slice ia m ic), (72, .int .i64 m), (73, .int .i64 (x : Int))])
        (fun _ => tbH b es2 [0, es1.length] _ ++ [rng oa (strC outer), rng ia (strC inner)]) (fun x => x ≤ m) (fun x => m - x) 0 ⟨rfl, rfl, rfl, rfl, rfl, rfl, rfl, rfl, rfl, rfl, rfl, rfl, trivial⟩ rfl (Nat.zero_le _) ?_
      rintro j hj K3 hK3
      by_cases hjn : j < m
      · refine w_use (fun w hw => (hw.pick 4 rfl).rng_some (by rw [strC_len]; omega)) ?_
        rintro ⟨a, rfl⟩
        have hc : (strC inner)[(j : Int).toNat * 1]? = some (.string inner[j]) := by
          rw [show (j : Int).toNat * 1 = j by omega]; exact strC_get inner j (by omega)
        have hst := isIn_step name inner j (by omega)
        cases hth : isIn name (inner.take j) with
        | true =>
          rw [hth] at hst
          refine rr ?_
          refine w_round hK3 (j + 1) (by show j + 1 ≤ m; omega) (by show m - (j + 1) < m - j; omega) rfl ⟨rfl, rfl, rfl, rfl, rfl, rfl, rfl, rfl, by rw [hst]; rfl, rfl, rfl, rfl, trivial⟩
        | false =>
          rw [hth] at hst
          refine rr ?_
          refine w_round hK3 (j + 1) (by show j + 1 ≤ m; omega) (by show m - (j + 1) < m - j; omega) rfl ⟨rfl, rfl, rfl, rfl, rfl, rfl, rfl, rfl, by rw [hst]; rfl, rfl, rfl, rfl, trivial⟩
      · obtain rfl : j = m := by omega
        rw [show inner.take j = inner by rw [hi]; simp]
        obtain ⟨v1, n1, ok1⟩ := r1
        obtain ⟨v2, n2, ok2⟩ := r2
        dsimp only at hb2 hb3 ⊢
        cases hth : isIn name inner with
        | true =>
          rw [hth] at hb2
          simp only [Bool.true_eq, Bool.and_eq_true, decide_eq_true_eq] at hb2
          obtain ⟨rfl, hv⟩ := hb2
          have hv' : decide (v2 ≥ 100) = true := by simp; omega
          refine rr ?_
          rw [hv']
          refine rr ?_
          have hvv : (v1 == v1) = true := by simp
          have hnn : ((n1 : Int) == (n1 : Int)) = true := by simp
          have hoo : (ok1 == ok1) = true := by simp
          refine ca [0, 0, 0] (closeC b _ es2 es1 [0, es1.length] [0] true ⟨by omega, by simp, by simp; omega⟩ rfl hb1 rfl) ?_
          intro x hx
          try simp only [List.cons_append, List.nil_append, List.append_nil]
          refine rr ?_
          refine ca [0, 0, 0] (findC b _ es1 [0] name _ ⟨by omega, by simp, by simp⟩ hr1) ?_
          intro x hx
          try simp only [List.cons_append, List.nil_append, List.append_nil]
          refine rr ?_
          rw [hvv]
          refine rr ?_
          rw [hnn]
          refine rr ?_
          rw [hoo]
          refine rr ?_
          refine ca [0, 0, 0] (depthC b _ es1 [0]) ?_
          intro x hx
          try simp only [List.cons_append, List.nil_append, List.append_nil]
          refine rr ?_
          refine ca [] awake_spec ?_
          intro x hx
          try simp only [List.cons_append, List.nil_append, List.append_nil]
          refine rr ?_
          exact w_end1 () [] (.inl rfl) rfl rfl rfl rfl trivial
        | false =>
          rw [hth] at hb2
          obtain ⟨rfl, rfl⟩ := hb3 hth
          cases ok2 with
          | false =>
            have hv2 : (v2 != v2) = false := by simp
            refine rr ?_
            rw [hv2]
            refine rr ?_
            have hvv : (v2 == v2) = true := by simp
            have hnn : ((n1 : Int) == (n1 : Int)) = true := by simp
            have hoo : (false == false) = true := by simp
            refine ca [0, 0, 0] (closeC b _ es2 es1 [0, es1.length] [0] true ⟨by omega, by simp, by simp; omega⟩ rfl hb1 rfl) ?_
            intro x hx
            try simp only [List.cons_append, List.nil_append, List.append_nil]
            refine rr ?_
            refine ca [0, 0, 0] (findC b _ es1 [0] name _ ⟨by omega, by simp, by simp⟩ hr1) ?_
            intro x hx
            try simp only [List.cons_append, List.nil_append, List.append_nil]
            refine rr ?_
            rw [hvv]
            refine rr ?_
            rw [hnn]
            refine rr ?_
            rw [hoo]
            refine rr ?_
            refine ca [0, 0, 0] (depthC b _ es1 [0]) ?_
            intro x hx
            try simp only [List.cons_append, List.nil_append, List.append_nil]
            refine rr ?_
            refine ca [] awake_spec ?_
            intro x hx
            try simp only [List.cons_append, List.nil_append, List.append_nil]
            refine rr ?_
            exact w_end1 () [] (.inl rfl) rfl rfl rfl rfl trivial
          | true =>
            simp at hb2
            have hv' : decide (v2 ≥ 100) = false := by simp; omega
            have hv2 : (v2 != v2) = false := by simp
            refine rr ?_
            rw [hv']
            refine rr ?_
            have hvv : (v2 == v2) = true := by simp
            have hnn : ((n1 : Int) == (n1 : Int)) = true := by simp
            have hoo : (true == true) = true := by simp
            refine ca [0, 0, 0] (closeC b _ es2 es1 [0, es1.length] [0] true ⟨by omega, by simp, by simp; omega⟩ rfl hb1 rfl) ?_
            intro x hx
            try simp only [List.cons_append, List.nil_append, List.append_nil]
            refine rr ?_
            refine ca [0, 0, 0] (findC b _ es1 [0] name _ ⟨by omega, by simp, by simp⟩ hr1) ?_
            intro x hx
            try simp only [List.cons_append, List.nil_append, List.append_nil]
            refine rr ?_
            rw [hvv]
            refine rr ?_
            rw [hnn]
            refine rr ?_
            rw [hoo]
            refine rr ?_
            refine ca [0, 0, 0] (depthC b _ es1 [0]) ?_
            intro x hx
            try simp only [List.cons_append, List.nil_append, List.append_nil]
            refine rr ?_
            refine ca [] awake_spec ?_
            intro x hx
            try simp only [List.cons_append, List.nil_append, List.append_nil]
            refine rr ?_
            exact w_end1 () [] (.inl rfl) rfl rfl rfl rfl trivial
end Go.Proofs.Ytdjjlpgphkbehaa

/- ScopePlays: the walk. -/
import Derived.Test.YtdjjlpgphkbehaaSd14
import Derived.Test.YtdjjlpgphkbehaaSd15
import Derived.Test.YtdjjlpgphkbehaaSd3
import Derived.Test.YtdjjlpgphkbehaaSxK
namespace Go.Proofs.Ytdjjlpgphkbehaa
open Go Go.Sx Go.Sx.Chunk
set_option linter.unusedVariables false
set_option linter.unusedSimpArgs false

/-- What is done: a kind, a name, a number. -/
abbrev ActD := Int × ByteArray × Int
def actC (a : ActD) : List Value := [.int .i64 a.1, .string a.2.1, .int .i64 a.2.2]
theorem dec_act {H : Type} {enc : TypeId × Value → H} {w : World} {base : Nat} {spare : Nat → Bool} {held : Bool} : Dec enc Try.prog w base spare held 37 actC (fun a => a.2.1.size ≤ maxLen) (fun _ => []) :=
  (dec_struct Try.underlying37 (sz := 3) (by kernel_rfl) (decF_cons (k := 1) (sz := 2) rfl (by kernel_rfl) (dec_int Try.underlying3) (decF_cons (k := 1) (sz := 1) rfl (by kernel_rfl) (dec_string Try.underlying9) (decF_cons (k := 1) (sz := 0) rfl (by kernel_rfl) (dec_int Try.underlying3) decF_nil)))).iso (fun (x : Int × ByteArray × Int × Unit) => ((x.1, x.2.1, x.2.2.1) : ActD)) (fun _ => rfl) (fun _ h => h.2.1) (fun _ => rfl)

set_option maxHeartbeats 8000000 in
theorem plays_spec (aa : Option Addr) (n ac : Nat) (acts : List ActD) (name : ByteArray) (hn : n = acts.length) :
    FnC (α := Unit) Try.prog 5 [.slice aa n ac, .string name] [] [rng aa (acts.flatMap actC)] (fun _ => .bool true) (fun _ => []) (fun _ => True) := by
  refine fn_intro Try.func5 Try.ntmps5 rfl rfl rfl (fun w0 => ?_)
  try simp only [List.cons_append, List.nil_append, List.append_nil]
  refine rr ?_
  intro b _
  refine w_turn (fun w hw => (((hw.row_nil 3 1).row_nil 51 2).row_nil 41 3).sub [3, 1, 1, 0, 0] (A := tbH b (esL []) (bsL [] 0) ⟨none, 0, none, 0⟩ ++ [rowR none 0 [], rng aa (acts.flatMap actC)]) rfl) ?_
  refine rr ?_
  refine w_loop (α := Nat × List R3 × Nat × Option Addr × Nat × Cp) (fun x => [(0, .slice aa n ac), (1, .string name), (5, ptrV b), (6, .slice x.2.2.2.1 x.2.1.length x.2.2.2.2.1), (7, .int .i64 (x.2.2.1 : Int)), (8, .int .i64 (x.1 : Int))])
    (fun x => tbH b (esL x.2.1) (bsL x.2.1 x.2.2.1) x.2.2.2.2.2 ++ [rowR x.2.2.2.1 x.2.2.2.2.1 x.2.1, rng aa (acts.flatMap actC)]) (fun x => x.1 ≤ n ∧ x.1 ≤ 60 ∧ x.2.1.length ≤ x.1 ∧ x.2.2.1 ≤ x.1 ∧ val3 x.2.1 x.2.2.1) (fun x => n - x.1) (0, [], 0, none, 0, ⟨none, 0, none, 0⟩) ⟨rfl, rfl, rfl, rfl, rfl, rfl, trivial⟩ rfl ⟨Nat.zero_le _, Nat.zero_le _, Nat.zero_le _, Nat.zero_le _, val_nil 0⟩ ?_
  rintro ⟨k, l, d, a, c, p⟩ ⟨hk, hk6, hl, hd, hv⟩ K1 hK1
  dsimp only at hk hk6 hl hd hv ⊢
  have hok := val_ok hv (by omega) (by omega)
  by_cases hlt : k < n ∧ k < 60
  · obtain ⟨hkn, hk60⟩ := hlt
    obtain ⟨⟨kind, nm, v⟩, he⟩ := some_at (l := acts) (k := k) (by omega)
    have h3 : ((acts.flatMap actC).drop ((k : Int).toNat * 3)).take 3 = [.int .i64 kind, .string nm, .int .i64 v] := by
      rw [show (k : Int).toNat * 3 = k * 3 by omega]
      exact flat_get (cells := actC) (sz := 3) (fun _ => rfl) he
    have hal : (acts.flatMap actC).length = acts.length * 3 := flat_len (cells := actC) (sz := 3) (fun _ => rfl) acts
    refine w_use (fun w hw => (hw.pick 4 rfl).rng_some (by first | omega | decide | (simp; done) | (simp <;> omega))) ?_
    rintro ⟨g1, rfl⟩
    refine rr ?_
    intro b9 _
    by_cases hsz : 100 < nm.size
    · refine rr ?_
      refine ca [] awake_spec ?_
      intro x hx
      try simp only [List.cons_append, List.nil_append, List.append_nil]
      refine rr ?_
      exact we () [] trivial
    by_cases hk0 : kind = 0
    · subst hk0
      have hv2 := val_up hv
      refine rr ?_
      refine ca [1, 1, 1] (openC b p (esL l) (bsL l d) _ hok (bsL_open hv)) ?_
      intro x hx
      try simp only [List.cons_append, List.nil_append, List.append_nil]
      refine rr ?_
      refine ca [0, 0, 0, 1] (findsC b _ a c l (d + 1) nm hv2 (by omega) (by omega)) ?_
      intro x hx
      try simp only [List.cons_append, List.nil_append, List.append_nil]
      refine rr ?_
      refine ca [0, 0, 0, 0] (findsC b _ a c l (d + 1) name hv2 (by omega) (by omega)) ?_
      intro x hx
      try simp only [List.cons_append, List.nil_append, List.append_nil]
      refine rr ?_
      refine ca [0, 0, 0, 0] (tellsC b _ a c l (d + 1) hv2 (by omega) (by omega)) ?_
      intro x hx
      try simp only [List.cons_append, List.nil_append, List.append_nil]
      refine rr ?_
      refine w_sub [0, 0, 0, 0, 1] rfl ?_
      exact w_round hK1 (k + 1, l, (d + 1), a, c, x) ⟨by show k + 1 ≤ n; omega, by show k + 1 ≤ 60; omega, by show List.length l ≤ k + 1; omega, by show (d + 1) ≤ k + 1; omega, hv2⟩ (by show n - (k + 1) < n - k; omega) rfl ⟨rfl, rfl, rfl, rfl, rfl, rfl, trivial⟩
    · by_cases hk1 : kind = 1
      · subst hk1
        cases d with
        | zero =>
          have hv2 := hv
          refine rr ?_
          refine ca [1, 1, 1] (closeC b p (esL l) (esL l) (bsL l 0) (bsL l 0) false hok rfl rfl rfl) ?_
          intro x hx
          try simp only [List.cons_append, List.nil_append, List.append_nil]
          refine rr ?_
          refine ca [0, 0, 0, 1] (findsC b _ a c l 0 nm hv2 (by omega) (by omega)) ?_
          intro x hx
          try simp only [List.cons_append, List.nil_append, List.append_nil]
          refine rr ?_
          refine ca [0, 0, 0, 0] (findsC b _ a c l 0 name hv2 (by omega) (by omega)) ?_
          intro x hx
          try simp only [List.cons_append, List.nil_append, List.append_nil]
          refine rr ?_
          refine ca [0, 0, 0, 0] (tellsC b _ a c l 0 hv2 (by omega) (by omega)) ?_
          intro x hx
          try simp only [List.cons_append, List.nil_append, List.append_nil]
          refine rr ?_
          refine w_sub [0, 0, 0, 0, 1] rfl ?_
          exact w_round hK1 (k + 1, l, 0, a, c, x) ⟨by show k + 1 ≤ n; omega, by show k + 1 ≤ 60; omega, by show List.length l ≤ k + 1; omega, by show 0 ≤ k + 1; omega, hv2⟩ (by show n - (k + 1) < n - k; omega) rfl ⟨rfl, rfl, rfl, rfl, rfl, rfl, trivial⟩
        | succ d =>
          have hv2 := val_cls hv
          have hl2 : (clsL l (d + 1)).length ≤ k := Nat.le_trans (List.length_filter_le _ _) hl
          refine rr ?_
          refine ca [1, 1, 1] (closeC b p (esL l) _ (bsL l (d + 1)) _ true hok (by rw [bsL_len]; rfl) (esL_cls hv) (bsL_cls l d)) ?_
          intro x hx
          try simp only [List.cons_append, List.nil_append, List.append_nil]
          refine rr ?_
          refine ca [4] (closedC a c l (d + 1) (by omega)) ?_
          intro x hx
          try simp only [List.cons_append, List.nil_append, List.append_nil]
          obtain ⟨a1, c1⟩ := x
          refine rr ?_
          have hdd : (((d + 1 : Nat) : Int) - 1) = (d : Int) := by omega
          rw [hdd]
          dsimp only
          refine ca [1, 1, 1, 0] (findsC b _ a1 c1 (clsL l (d + 1)) d nm hv2 (by omega) (by omega)) ?_
          intro x hx
          try simp only [List.cons_append, List.nil_append, List.append_nil]
          refine rr ?_
          refine ca [0, 0, 0, 0] (findsC b _ a1 c1 (clsL l (d + 1)) d name hv2 (by omega) (by omega)) ?_
          intro x hx
          try simp only [List.cons_append, List.nil_append, List.append_nil]
          refine rr ?_
          refine ca [0, 0, 0, 0] (tellsC b _ a1 c1 (clsL l (d + 1)) d hv2 (by omega) (by omega)) ?_
          intro x hx
          try simp only [List.cons_append, List.nil_append, List.append_nil]
          refine rr ?_
          refine w_sub [0, 0, 0, 0, 1] rfl ?_
          exact w_round hK1 (k + 1, (clsL l (d + 1)), d, a1, c1, x) ⟨by show k + 1 ≤ n; omega, by show k + 1 ≤ 60; omega, by show List.length (clsL l (d + 1)) ≤ k + 1; omega, by show d ≤ k + 1; omega, hv2⟩ (by show n - (k + 1) < n - k; omega) rfl ⟨rfl, rfl, rfl, rfl, rfl, rfl, trivial⟩
      · have hmay := may_ok hv nm
        refine rr ?_
        refine ca [4] (bestC a c l nm (by omega)) ?_
        intro x hx
        try simp only [List.cons_append, List.nil_append, List.append_nil]
        by_cases hd0 : d = 0
        · subst hd0
          have hv2 := hv
          have hm : mayF l 0 nm = false := by simp [mayF]
          rw [hm] at hmay
          have hde : defE (esL l) (bsL l 0) nm v = esL l := by unfold defE; rw [hmay]; rfl
          refine rr ?_
          refine ca [2, 2, 2] (defineC b p (esL l) _ (bsL l 0) nm v false hok hmay hde) ?_
          intro x hx
          try simp only [List.cons_append, List.nil_append, List.append_nil]
          refine rr ?_
          refine ca [0, 0, 0, 0] (findsC b _ a c l 0 nm hv2 (by omega) (by omega)) ?_
          intro x hx
          try simp only [List.cons_append, List.nil_append, List.append_nil]
          refine rr ?_
          refine ca [0, 0, 0, 0] (findsC b _ a c l 0 name hv2 (by omega) (by omega)) ?_
          intro x hx
          try simp only [List.cons_append, List.nil_append, List.append_nil]
          refine rr ?_
          refine ca [0, 0, 0, 0] (tellsC b _ a c l 0 hv2 (by omega) (by omega)) ?_
          intro x hx
          try simp only [List.cons_append, List.nil_append, List.append_nil]
          refine rr ?_
          refine w_sub [0, 0, 0, 0, 1] rfl ?_
          exact w_round hK1 (k + 1, l, 0, a, c, x) ⟨by show k + 1 ≤ n; omega, by show k + 1 ≤ 60; omega, by show List.length l ≤ k + 1; omega, by show 0 ≤ k + 1; omega, hv2⟩ (by show n - (k + 1) < n - k; omega) rfl ⟨rfl, rfl, rfl, rfl, rfl, rfl, trivial⟩
        · have hd1 : decide (0 < d) = true := by simp; omega
          rcases find_all hv nm with ⟨h1, h2, h3⟩ | ⟨i, e, hi, h1, h2, h3, h4, h5⟩
          · have hm : mayF l d nm = true := by unfold mayF; rw [h1, hd1]; rfl
            have hv2 := val_def (v := v) hv hm
            rw [hm] at hmay
            have hde : defE (esL l) (bsL l d) nm v = esL (l ++ [(nm, v, d)]) := by unfold defE; rw [hmay, esL_def]; rfl
            have hl2 : (l ++ [(nm, v, d)]).length = l.length + 1 := by simp
            rw [h1]
            refine rr ?_
            refine ca [2, 2, 2] (defineC b p (esL l) _ (bsL l d) nm v true hok hmay hde) ?_
            intro x hx
            try simp only [List.cons_append, List.nil_append, List.append_nil]
            rw [← bsL_def l d nm v]
            unfold rowR
            refine rr ?_
            intro b10 _
            refine rr ?_
            rintro ⟨a1, c1⟩ ⟨hc1, _⟩
            refine rr ?_
            have hr3 : r3C l ++ [Value.string nm, .int .i64 v, .int .i64 (d : Int)] = r3C (l ++ [(nm, v, d)]) := (r3C_app l (nm, v, d)).symm
            rw [hr3]
            rw [← hl2]
            dsimp only
            refine ca [1, 1, 1, 0] (findsC b _ a1 c1 (l ++ [(nm, v, d)]) d nm hv2 (by omega) (by omega)) ?_
            intro x hx
            try simp only [List.cons_append, List.nil_append, List.append_nil]
            refine rr ?_
            refine ca [0, 0, 0, 0] (findsC b _ a1 c1 (l ++ [(nm, v, d)]) d name hv2 (by omega) (by omega)) ?_
            intro x hx
            try simp only [List.cons_append, List.nil_append, List.append_nil]
            refine rr ?_
            refine ca [0, 0, 0, 0] (tellsC b _ a1 c1 (l ++ [(nm, v, d)]) d hv2 (by omega) (by omega)) ?_
            intro x hx
            try simp only [List.cons_append, List.nil_append, List.append_nil]
            refine rr ?_
            refine w_sub [0, 0, 0, 0, 1] rfl ?_
            exact w_round hK1 (k + 1, (l ++ [(nm, v, d)]), d, a1, c1, x) ⟨by show k + 1 ≤ n; omega, by show k + 1 ≤ 60; omega, by show List.length (l ++ [(nm, v, d)]) ≤ k + 1; omega, by show d ≤ k + 1; omega, hv2⟩ (by show n - (k + 1) < n - k; omega) rfl ⟨rfl, rfl, rfl, rfl, rfl, rfl, trivial⟩
          · have hil : i < l.length := (List.getElem?_eq_some_iff.1 hi).1
            have hgb : l.getD (i : Int).toNat r3d = e := by simp [hi]
            have hi0 : decide ((i : Int) < 0) = false := by simp
            have e2 : (r3C l)[0 + (i : Int).toNat * 3 + 2]? = some (.int .i64 (e.2.2 : Int)) := r3C_at hi 2 (by decide) _ (by omega)
            have hll := r3C_len l
            rw [h1]
            unfold rowR
            refine w_use (fun w hw => (hw.pick 0 rfl).row_some (by first | omega | decide | (simp; done) | (simp <;> omega))) ?_
            rintro ⟨g2, rfl⟩
            by_cases hlt : e.2.2 < d
            · have hm : mayF l d nm = true := by unfold mayF; rw [h1, hd1, hgb, hi0, decide_eq_true hlt]; rfl
              have hv2 := val_def (v := v) hv hm
              rw [hm] at hmay
              have hde : defE (esL l) (bsL l d) nm v = esL (l ++ [(nm, v, d)]) := by unfold defE; rw [hmay, esL_def]; rfl
              have hl2 : (l ++ [(nm, v, d)]).length = l.length + 1 := by simp
              have hq : (!true == decide ((e.2.2 : Int) < (d : Int))) = false := by simp; omega
              refine rr ?_
              refine ca [2, 2, 2] (defineC b p (esL l) _ (bsL l d) nm v true hok hmay hde) ?_
              intro x hx
              try simp only [List.cons_append, List.nil_append, List.append_nil]
              rw [← bsL_def l d nm v]
              refine rr ?_
              intro b10 _
              refine rr ?_
              rintro ⟨a1, c1⟩ ⟨hc1, _⟩
              refine rr ?_
              have hr3 : r3C l ++ [Value.string nm, .int .i64 v, .int .i64 (d : Int)] = r3C (l ++ [(nm, v, d)]) := (r3C_app l (nm, v, d)).symm
              rw [hr3]
              rw [← hl2]
              dsimp only
              refine ca [1, 1, 1, 0] (findsC b _ a1 c1 (l ++ [(nm, v, d)]) d nm hv2 (by omega) (by omega)) ?_
              intro x hx
              try simp only [List.cons_append, List.nil_append, List.append_nil]
              refine rr ?_
              refine ca [0, 0, 0, 0] (findsC b _ a1 c1 (l ++ [(nm, v, d)]) d name hv2 (by omega) (by omega)) ?_
              intro x hx
              try simp only [List.cons_append, List.nil_append, List.append_nil]
              refine rr ?_
              refine ca [0, 0, 0, 0] (tellsC b _ a1 c1 (l ++ [(nm, v, d)]) d hv2 (by omega) (by omega)) ?_
              intro x hx
              try simp only [List.cons_append, List.nil_append, List.append_nil]
              refine rr ?_
              refine w_sub [0, 0, 0, 0, 1] rfl ?_
              exact w_round hK1 (k + 1, (l ++ [(nm, v, d)]), d, a1, c1, x) ⟨by show k + 1 ≤ n; omega, by show k + 1 ≤ 60; omega, by show List.length (l ++ [(nm, v, d)]) ≤ k + 1; omega, by show d ≤ k + 1; omega, hv2⟩ (by show n - (k + 1) < n - k; omega) rfl ⟨rfl, rfl, rfl, rfl, rfl, rfl, trivial⟩
            · have hm : mayF l d nm = false := by unfold mayF; rw [h1, hd1, hgb, hi0, decide_eq_false hlt]; rfl
              have hv2 := hv
              rw [hm] at hmay
              have hde : defE (esL l) (bsL l d) nm v = esL l := by unfold defE; rw [hmay]; rfl
              have hq : (!false == decide ((e.2.2 : Int) < (d : Int))) = false := by simp; omega
              refine rr ?_
              refine ca [2, 2, 2] (defineC b p (esL l) _ (bsL l d) nm v false hok hmay hde) ?_
              intro x hx
              try simp only [List.cons_append, List.nil_append, List.append_nil]
              refine rr ?_
              refine ca [0, 0, 0, 0] (findsC b _ _ c l d nm hv2 (by omega) (by omega)) ?_
              intro x hx
              try simp only [List.cons_append, List.nil_append, List.append_nil]
              refine rr ?_
              refine ca [0, 0, 0, 0] (findsC b _ _ c l d name hv2 (by omega) (by omega)) ?_
              intro x hx
              try simp only [List.cons_append, List.nil_append, List.append_nil]
              refine rr ?_
              refine ca [0, 0, 0, 0] (tellsC b _ _ c l d hv2 (by omega) (by omega)) ?_
              intro x hx
              try simp only [List.cons_append, List.nil_append, List.append_nil]
              refine rr ?_
              refine w_sub [0, 0, 0, 0, 1] rfl ?_
              exact w_round hK1 (k + 1, l, d, _, c, x) ⟨by show k + 1 ≤ n; omega, by show k + 1 ≤ 60; omega, by show List.length l ≤ k + 1; omega, by show d ≤ k + 1; omega, hv2⟩ (by show n - (k + 1) < n - k; omega) rfl ⟨rfl, rfl, rfl, rfl, rfl, rfl, trivial⟩
  · have hcase : (k < n ∧ ¬ k < 60) ∨ ¬ k < n := by omega
    rcases hcase with ⟨hkn, h60⟩ | hkn
    all_goals
      refine rr ?_
      refine ca [] awake_spec ?_
      intro x hx
      try simp only [List.cons_append, List.nil_append, List.append_nil]
      refine rr ?_
      exact we () [] trivial
theorem plays_law (aa : Option Addr) (ac : Nat) (acts : List ActD) (name : ByteArray) :
    FnC (α := Unit) Try.prog 5 [.slice aa acts.length ac, .string name] [] [rng aa (acts.flatMap actC)] (fun _ => .bool true) (fun _ => []) (fun _ => True) := plays_spec aa acts.length ac acts name rfl
end Go.Proofs.Ytdjjlpgphkbehaa

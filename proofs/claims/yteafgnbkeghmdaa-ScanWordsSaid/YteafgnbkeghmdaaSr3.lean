/- The document's scan: the walk. -/
import Derived.Test.YteafgnbkeghmdaaSr2
namespace Go.Proofs.Yteafgnbkeghmdaa
open Go Go.Sx Go.Sx.Chunk
set_option linter.unusedVariables false
set_option linter.unusedSimpArgs false

set_option maxHeartbeats 8000000 in
theorem rScanC (s : ByteArray) (hs : s.size ≤ 1000000) :
    FnC Try.prog 11 [.string s] [] [] (fun (x : Option Addr × Nat) => scanV (scanD 0 (txt s)) x) (fun x => [row x.1 x.2 31 4 (scanD 0 (txt s)).1.length (tokC (scanD 0 (txt s)).1)]) (fun _ => True) := by
  have hmax : s.size ≤ maxLen := by unfold maxLen; omega
  refine fn_intro Try.func11 Try.ntmps11 rfl rfl rfl (fun w0 => ?_)
  try simp only [List.cons_append, List.nil_append, List.append_nil]
  refine rr ?_
  refine w_turn (fun w hw => hw.row_nil 31 4) ?_
  generalize hres : scanD 0 (txt s) = res
  refine w_loop (α := List (Tk × Nat) × Nat × Option Addr × Nat) (fun x => [(0, .string s), (5, .slice x.2.2.1 x.1.length x.2.2.2), (6, .int .i64 (x.2.1 : Int))]) (fun x => [row x.2.2.1 x.2.2.2 31 4 x.1.length (tokC x.1)])
    (fun x => x.2.1 ≤ s.size ∧ x.1.length ≤ x.2.1 ∧ comb x.1 (scanD x.2.1 ((txt s).drop x.2.1)) = res) (fun x => s.size - x.2.1) ([], 0, none, 0) ⟨rfl, rfl, rfl, trivial⟩ rfl ⟨Nat.zero_le _, Nat.le_refl _, by rw [← hres]; exact comb_nil _ (scanD_res _ _ _ (Nat.le_refl _))⟩ ?_
  rintro ⟨l0, p, ao, cap⟩ ⟨hp, hl0, hr⟩ K1 hK1
  dsimp only at hp hl0 hr ⊢
  by_cases hlt : p < s.size
  · obtain ⟨b, hb⟩ := get_some (l := txt s) (i := p) (by rw [txt_len]; exact hlt)
    have hb' : s[(p : Int).toNat]? = some b := by
      rw [show (p : Int).toNat = p by omega]; exact txt_get s _ b hb
    have hdr : (txt s).drop p = b :: (txt s).drop (p + 1) := drop_cons hb
    have hlen : ((txt s).drop p).length = s.size - p := by rw [List.length_drop, txt_len]
    have hidx := indexByte_lt ((txt s).drop p) 125
    rw [hlen] at hidx
    rw [hdr, scanD_cons, ← hdr] at hr
    cases hbl : isBlank b with
    | true =>
      rw [hbl, if_pos rfl] at hr
      have hbn : b.toNat = 32 ∨ b.toNat = 9 ∨ b.toNat = 10 ∨ b.toNat = 13 := by
        simp only [isBlank, Bool.or_eq_true, beq_iff_eq] at hbl
        rcases hbl with ((rfl | rfl) | rfl) | rfl <;> simp
      rcases hbn with h | h | h | h
      all_goals
        refine rr ?_
        refine w_round hK1 (l0, p + 1, ao, cap) ⟨by show p + 1 ≤ s.size; omega, by show l0.length ≤ p + 1; omega, hr⟩ (by show s.size - (p + 1) < s.size - p; omega) rfl ⟨rfl, rfl, rfl, trivial⟩
    | false =>
      rw [hbl, if_neg (by simp)] at hr
      have hbn : b.toNat ≠ 32 ∧ b.toNat ≠ 9 ∧ b.toNat ≠ 10 ∧ b.toNat ≠ 13 := by
        simp only [isBlank, Bool.or_eq_false_iff, beq_eq_false_iff_ne, ne_eq, ← UInt8.toNat_inj] at hbl
        exact ⟨hbl.1.1.1, hbl.1.1.2, hbl.1.2, hbl.2⟩
      obtain ⟨hn1, hn2, hn3, hn4⟩ := hbn
      by_cases h123 : b = 123
      · subst h123
        rw [if_pos rfl] at hr
        refine rr ?_
        refine w_loop (α := Nat) (fun q => [(0, .string s), (5, .slice ao l0.length cap), (6, .int .i64 (q : Int)), (8, .int .i64 (p : Int))]) (fun _ => [row ao cap 31 4 l0.length (tokC l0)])
          (fun q => p ≤ q ∧ q ≤ s.size ∧ (Lib.indexByte ((txt s).drop q) 125 < 0 → Lib.indexByte ((txt s).drop p) 125 < 0) ∧ (0 ≤ Lib.indexByte ((txt s).drop q) 125 → Lib.indexByte ((txt s).drop p) 125 = Lib.indexByte ((txt s).drop q) 125 + (q - p))) (fun q => s.size - q) p ⟨rfl, rfl, rfl, rfl, trivial⟩ rfl ⟨Nat.le_refl _, hp, fun h => h, fun h => by omega⟩ ?_
        rintro q ⟨hq1, hq2, hq3, hq4⟩ K2 hK2
        by_cases hlt2 : q < s.size
        · obtain ⟨c, hc⟩ := get_some (l := txt s) (i := q) (by rw [txt_len]; exact hlt2)
          have hc' : s[(q : Int).toNat]? = some c := by
            rw [show (q : Int).toNat = q by omega]; exact txt_get s _ c hc
          have hst := idx_step (c := 125) hc
          have hge := Lib.indexByte_ge ((txt s).drop (q + 1)) 125
          by_cases h125 : c = 125
          · subst h125
            rw [if_pos (by simp)] at hst
            rw [hst] at hq4
            have hq5 := hq4 (by omega)
            rw [hq5, if_neg (by omega)] at hr
            refine rr ?_
            refine w_round hK1 (l0, q + 1, ao, cap) ⟨by show q + 1 ≤ s.size; omega, by show l0.length ≤ q + 1; omega, ?_⟩ (by show s.size - (q + 1) < s.size - p; omega) rfl ⟨rfl, rfl, rfl, trivial⟩
            rw [← hr, List.drop_drop]
            show comb l0 (scanD (q + 1) ((txt s).drop (q + 1))) = _
            rw [show p + (0 + ((q : Int) - (p : Int))).toNat + 1 = q + 1 by omega, show p + ((0 + ((q : Int) - (p : Int))).toNat + 1) = q + 1 by omega]
          · rw [if_neg (by simpa using h125)] at hst
            have hcn : c.toNat ≠ 125 := fun h => h125 (UInt8.toNat_inj.1 h)
            refine rr ?_
            refine w_round hK2 (q + 1) ⟨by omega, by omega, fun h => hq3 ?_, fun h => ?_⟩ (by show s.size - (q + 1) < s.size - q; omega) rfl ⟨rfl, rfl, rfl, rfl, trivial⟩
            · rw [hst]
              split
              · decide
              · rename_i hx; simp at hx; omega
            · rw [if_neg (by simp; omega)] at hst
              rw [hq4 (by omega), hst]; omega
        · obtain rfl : q = s.size := by omega
          rw [List.drop_of_length_le (show (txt s).length ≤ s.size by rw [txt_len]; exact Nat.le_refl _)] at hq3
          rw [if_pos (hq3 (by decide))] at hr
          refine rr ?_
          refine w_turn (fun w hw => hw.row_nil 31 4) ?_
          subst hr
          exact we (none, 0) [0] trivial
      · rw [if_neg h123] at hr
        have hne : b.toNat ≠ 123 := fun h => h123 (UInt8.toNat_inj.1 h)
        refine rr ?_
        refine ca [] (rLetterC (b.toNat : Int)) ?_
        intro x hx
        try simp only [List.cons_append, List.nil_append, List.append_nil]
        have htk : tokR ((txt s).drop p) = if isLetter (b.toNat : Int) then
            (if runL isLD ((txt s).drop p) > 16 then (tk0, 0, 4) else (⟨1, (((txt s).drop p).take (runL isLD ((txt s).drop p))).map lowB, 0⟩, runL isLD ((txt s).drop p), 0))
          else if isDigit (b.toNat : Int) then
            (if numL (((txt s).drop p).take (runL isDigit ((txt s).drop p))) 0 < 0 then (tk0, 0, 3) else (⟨2, [], numL (((txt s).drop p).take (runL isDigit ((txt s).drop p))) 0⟩, runL isDigit ((txt s).drop p), 0))
          else
            (if signR ((txt s).drop p) = 0 then (tk0, 0, 2) else (⟨3, ((txt s).drop p).take (signR ((txt s).drop p)), 0⟩, signR ((txt s).drop p), 0)) := by
          rw [hdr]; rfl
        cases hl : isLetter (b.toNat : Int) with
        | true =>
          rw [hl, if_pos rfl] at htk
          have hrle := runL_le isLD ((txt s).drop p)
          rw [hlen] at hrle
          refine rr ?_
          refine w_turn (fun w hw => hw.row_nil 5 1) ?_
          refine w_loop (α := Nat × Option Addr × Nat) (fun x => [(0, .string s), (5, .slice ao l0.length cap), (6, .int .i64 (x.1 : Int)), (8, .int .i64 (p : Int)), (9, .slice x.2.1 (x.1 - p) x.2.2)])
            (fun x => [row x.2.1 x.2.2 5 1 (x.1 - p) (bl ((((txt s).drop p).take (x.1 - p)).map lowB)), row ao cap 31 4 l0.length (tokC l0)])
            (fun x => p ≤ x.1 ∧ x.1 ≤ s.size ∧ runL isLD ((txt s).drop p) = (x.1 - p) + runL isLD ((txt s).drop x.1)) (fun x => s.size - x.1) (p, none, 0) ⟨rfl, rfl, rfl, rfl, by rw [Nat.sub_self]; rfl, trivial⟩ (by simp [bl]) ⟨Nat.le_refl _, hp, by simp⟩ ?_
          rintro ⟨q, ab, cb⟩ ⟨hq1, hq2, hq3⟩ K2 hK2
          dsimp only at hq1 hq2 hq3 ⊢
          by_cases hlt2 : q < s.size
          · obtain ⟨c, hc⟩ := get_some (l := txt s) (i := q) (by rw [txt_len]; exact hlt2)
            have hc' : s[(q : Int).toNat]? = some c := by
              rw [show (q : Int).toNat = q by omega]; exact txt_get s _ c hc
            rw [runL_step hc] at hq3
            have hcap : runL isLD ((txt s).drop p) ≤ s.size - p := hrle
            refine rr ?_
            refine ca [] (rLetterC (c.toNat : Int)) ?_
            intro x hx
            try simp only [List.cons_append, List.nil_append, List.append_nil]
            cases hl1 : isLetter (c.toNat : Int) with
            | true =>
              rw [show isLD (c.toNat : Int) = true by unfold isLD; rw [hl1]; rfl, if_pos rfl] at hq3
              simp only [isLetter, Bool.or_eq_true, Bool.and_eq_true, decide_eq_true_eq] at hl1
              by_cases h97 : c.toNat < 97
              · have hlow := low_yes (b := c) (by omega)
                refine rr ?_
                intro d _
                refine rr ?_
                rintro ⟨a', c'⟩ ⟨hc3, _⟩
                dsimp only at hc3 ⊢
                refine rr ?_
                refine w_round hK2 (q + 1, a', c') ⟨by show p ≤ q + 1; omega, by show q + 1 ≤ s.size; omega, by show runL isLD ((txt s).drop p) = (q + 1 - p) + runL isLD ((txt s).drop (q + 1)); omega⟩ (by show s.size - (q + 1) < s.size - q; omega) ?_ ⟨rfl, rfl, rfl, rfl, ?_, trivial⟩
                · rw [bl_snoc hq1 hc (by rw [hlow])]; show [row _ _ _ _ (q - p + 1) _, _] = [row _ _ _ _ (q + 1 - p) _, _]; rw [show q + 1 - p = q - p + 1 by omega]
                · show some (Value.slice a' (q - p + 1) c') = some (Value.slice a' (q + 1 - p) c'); rw [show q + 1 - p = q - p + 1 by omega]
              · have hlow := low_no (b := c) (by omega)
                refine rr ?_
                intro d _
                refine rr ?_
                rintro ⟨a', c'⟩ ⟨hc3, _⟩
                dsimp only at hc3 ⊢
                refine rr ?_
                refine w_round hK2 (q + 1, a', c') ⟨by show p ≤ q + 1; omega, by show q + 1 ≤ s.size; omega, by show runL isLD ((txt s).drop p) = (q + 1 - p) + runL isLD ((txt s).drop (q + 1)); omega⟩ (by show s.size - (q + 1) < s.size - q; omega) ?_ ⟨rfl, rfl, rfl, rfl, ?_, trivial⟩
                · rw [bl_snoc hq1 hc (by rw [hlow])]; show [row _ _ _ _ (q - p + 1) _, _] = [row _ _ _ _ (q + 1 - p) _, _]; rw [show q + 1 - p = q - p + 1 by omega]
                · show some (Value.slice a' (q - p + 1) c') = some (Value.slice a' (q + 1 - p) c'); rw [show q + 1 - p = q - p + 1 by omega]
            | false =>
              refine rr ?_
              refine ca [] (rDigitC (c.toNat : Int)) ?_
              intro x hx
              try simp only [List.cons_append, List.nil_append, List.append_nil]
              cases hd1 : isDigit (c.toNat : Int) with
              | true =>
                rw [show isLD (c.toNat : Int) = true by unfold isLD; rw [hl1, hd1]; rfl, if_pos rfl] at hq3
                simp only [isDigit, Bool.and_eq_true, decide_eq_true_eq] at hd1
                have hlow := low_no (b := c) (by omega)
                have h97 : c.toNat < 97 := by omega
                refine rr ?_
                intro d _
                refine rr ?_
                rintro ⟨a', c'⟩ ⟨hc3, _⟩
                dsimp only at hc3 ⊢
                refine rr ?_
                refine w_round hK2 (q + 1, a', c') ⟨by show p ≤ q + 1; omega, by show q + 1 ≤ s.size; omega, by show runL isLD ((txt s).drop p) = (q + 1 - p) + runL isLD ((txt s).drop (q + 1)); omega⟩ (by show s.size - (q + 1) < s.size - q; omega) ?_ ⟨rfl, rfl, rfl, rfl, ?_, trivial⟩
                · rw [bl_snoc hq1 hc (by rw [hlow])]; show [row _ _ _ _ (q - p + 1) _, _] = [row _ _ _ _ (q + 1 - p) _, _]; rw [show q + 1 - p = q - p + 1 by omega]
                · show some (Value.slice a' (q - p + 1) c') = some (Value.slice a' (q + 1 - p) c'); rw [show q + 1 - p = q - p + 1 by omega]
              | false =>
                rw [show isLD (c.toNat : Int) = false by unfold isLD; rw [hl1, hd1]; rfl, if_neg (by simp)] at hq3
                obtain ⟨k, rfl⟩ : ∃ k, q = p + k := ⟨q - p, by omega⟩
                simp only [Nat.add_sub_cancel_left] at hq3 ⊢
                rw [Nat.add_zero] at hq3
                rw [hq3] at htk
                by_cases hk16 : k > 16
                · refine rr ?_
                  refine w_turn (fun w hw => hw.row_nil 31 4) ?_
                  have hr2 : res = ([], p, 4) := by rw [← hr, htk, if_pos hk16]; rfl
                  subst hr2
                  exact we (none, 0) [0] trivial
                · rw [if_neg hk16] at htk
                  have h1 : bl ((((txt s).drop p).take k).map lowB) = bytC (bs ((((txt s).drop p).take k).map lowB)) ++ [] := by simp [bl, bytC, bs]
                  have h2 : k = (bs ((((txt s).drop p).take k).map lowB)).size := by rw [bs_size, List.length_map, List.length_take, hlen]; omega
                  have hk1 : 1 ≤ k := by
                    rw [← hq3, hdr]
                    exact runL_pos (by unfold isLD; rw [hl]; rfl)
                  rw [htk, if_neg (by simp), comb_cons, List.drop_drop] at hr
                  refine w_use (fun w hw => (hw.pick 0 rfl).row_some (by first | omega | decide | (simp; done) | (simp <;> omega))) ?_
                  rintro ⟨gg, rfl⟩
                  refine rr ?_
                  intro d _
                  refine rr ?_
                  rintro ⟨a', c'⟩ ⟨hc3, _⟩
                  dsimp only at hc3 ⊢
                  refine rr ?_
                  refine w_sub [0] rfl ?_
                  refine w_round hK1 (l0 ++ [(⟨1, (((txt s).drop p).take k).map lowB, 0⟩, p)], p + k, a', c') ⟨by show p + k ≤ s.size; omega, by simp; omega, hr⟩ (by show s.size - (p + k) < s.size - p; omega) ?_ ⟨rfl, ?_, rfl, trivial⟩
                  · rw [tokC_app, tokC_one, List.length_append]; rfl
                  · rw [List.length_append]; rfl
          · have hq4 : q = s.size := by omega
            rw [List.drop_of_length_le (show (txt s).length ≤ q by rw [txt_len]; omega)] at hq3
            simp only [runL] at hq3
            obtain ⟨k, rfl⟩ : ∃ k, q = p + k := ⟨q - p, by omega⟩
            simp only [Nat.add_sub_cancel_left] at hq3 ⊢
            rw [Nat.add_zero] at hq3
            rw [hq3] at htk
            by_cases hk16 : k > 16
            · refine rr ?_
              refine w_turn (fun w hw => hw.row_nil 31 4) ?_
              have hr2 : res = ([], p, 4) := by rw [← hr, htk, if_pos hk16]; rfl
              subst hr2
              exact we (none, 0) [0] trivial
            · rw [if_neg hk16] at htk
              have h1 : bl ((((txt s).drop p).take k).map lowB) = bytC (bs ((((txt s).drop p).take k).map lowB)) ++ [] := by simp [bl, bytC, bs]
              have h2 : k = (bs ((((txt s).drop p).take k).map lowB)).size := by rw [bs_size, List.length_map, List.length_take, hlen]; omega
              have hk1 : 1 ≤ k := by
                rw [← hq3, hdr]
                exact runL_pos (by unfold isLD; rw [hl]; rfl)
              rw [htk, if_neg (by simp), comb_cons, List.drop_drop] at hr
              refine w_use (fun w hw => (hw.pick 0 rfl).row_some (by first | omega | decide | (simp; done) | (simp <;> omega))) ?_
              rintro ⟨gg, rfl⟩
              refine rr ?_
              intro d _
              refine rr ?_
              rintro ⟨a', c'⟩ ⟨hc3, _⟩
              dsimp only at hc3 ⊢
              refine rr ?_
              refine w_sub [0] rfl ?_
              refine w_round hK1 (l0 ++ [(⟨1, (((txt s).drop p).take k).map lowB, 0⟩, p)], p + k, a', c') ⟨by show p + k ≤ s.size; omega, by simp; omega, hr⟩ (by show s.size - (p + k) < s.size - p; omega) ?_ ⟨rfl, ?_, rfl, trivial⟩
              · rw [tokC_app, tokC_one, List.length_append]; rfl
              · rw [List.length_append]; rfl
        | false =>
          rw [hl, if_neg (by simp)] at htk
          refine rr ?_
          refine ca [] (rDigitC (b.toNat : Int)) ?_
          intro x hx
          try simp only [List.cons_append, List.nil_append, List.append_nil]
          cases hl2 : isDigit (b.toNat : Int) with
          | true =>
            rw [hl2, if_pos rfl] at htk
            have hrle := runL_le isDigit ((txt s).drop p)
            have hall := runL_all isDigit ((txt s).drop p)
            rw [hlen] at hrle
            refine rr ?_
            refine w_loop (α := Nat × Int) (fun x => [(0, .string s), (5, .slice ao l0.length cap), (6, .int .i64 (x.1 : Int)), (8, .int .i64 (p : Int)), (11, .int .i64 x.2)])
              (fun x => [row ao cap 31 4 l0.length (tokC l0)])
              (fun x => p ≤ x.1 ∧ x.1 ≤ s.size ∧ 0 ≤ x.2 ∧ x.2 ≤ 10000000 ∧ runL isDigit ((txt s).drop p) = (x.1 - p) + runL isDigit ((txt s).drop x.1) ∧ satL (((txt s).drop p).take (runL isDigit ((txt s).drop p))) 0 = satL (((txt s).drop x.1).take (runL isDigit ((txt s).drop x.1))) x.2) (fun x => s.size - x.1) (p, 0) ⟨rfl, rfl, rfl, rfl, rfl, trivial⟩ rfl ⟨Nat.le_refl _, hp, by show (0 : Int) ≤ 0; decide, by show (0 : Int) ≤ 10000000; decide, by simp, rfl⟩ ?_
            rintro ⟨q, n⟩ ⟨hq1, hq2, hq3, hq4, hq5, hsat⟩ K2 hK2
            dsimp only at hq1 hq2 hq3 hq4 hq5 hsat ⊢
            by_cases hlt2 : q < s.size
            · obtain ⟨c, hc⟩ := get_some (l := txt s) (i := q) (by rw [txt_len]; exact hlt2)
              have hc' : s[(q : Int).toNat]? = some c := by
                rw [show (q : Int).toNat = q by omega]; exact txt_get s _ c hc
              have hst := runL_step (p := isDigit) hc
              refine rr ?_
              refine ca [] (rDigitC (c.toNat : Int)) ?_
              intro x hx
              try simp only [List.cons_append, List.nil_append, List.append_nil]
              cases hd1 : isDigit (c.toNat : Int) with
              | true =>
                rw [hd1, if_pos rfl] at hst
                rw [hst, drop_cons hc, List.take_succ_cons] at hsat
                rw [hst] at hq5
                simp only [satL] at hsat
                simp only [isDigit, Bool.and_eq_true, decide_eq_true_eq] at hd1
                by_cases hsm : n < 100000
                · rw [if_pos hsm] at hsat
                  refine rr ?_
                  refine w_round hK2 (q + 1, 10 * n + ((c.toNat : Int) - 48)) ⟨by show p ≤ q + 1; omega, by show q + 1 ≤ s.size; omega, by show 0 ≤ 10 * n + ((c.toNat : Int) - 48); omega, by show 10 * n + ((c.toNat : Int) - 48) ≤ 10000000; omega, by show runL isDigit ((txt s).drop p) = (q + 1 - p) + runL isDigit ((txt s).drop (q + 1)); omega, hsat⟩ (by show s.size - (q + 1) < s.size - q; omega) rfl ⟨rfl, rfl, rfl, rfl, rfl, trivial⟩
                · rw [if_neg hsm] at hsat
                  refine rr ?_
                  refine w_round hK2 (q + 1, n) ⟨by show p ≤ q + 1; omega, by show q + 1 ≤ s.size; omega, hq3, hq4, by show runL isDigit ((txt s).drop p) = (q + 1 - p) + runL isDigit ((txt s).drop (q + 1)); omega, hsat⟩ (by show s.size - (q + 1) < s.size - q; omega) rfl ⟨rfl, rfl, rfl, rfl, rfl, trivial⟩
              | false =>
                rw [hd1, if_neg (by simp)] at hst
                rw [hst, List.take_zero] at hsat
                rw [hst] at hq5
                refine rr ?_
                obtain ⟨k, rfl⟩ : ∃ k, q = p + k := ⟨q - p, by omega⟩
                simp only [Nat.add_sub_cancel_left] at hq5 ⊢
                rw [Nat.add_zero] at hq5
                rw [hq5] at htk hsat
                have hk1 : 1 ≤ k := by
                  rw [← hq5, hdr]
                  exact runL_pos hl2
                have hall2 : ∀ c ∈ ((txt s).drop p).take k, isDigit (c.toNat : Int) = true := by rw [← hq5]; exact hall
                have hnum := satL_num (((txt s).drop p).take k) 0 hall2 (by decide) (by decide)
                rw [hsat] at hnum
                simp only [satL] at hnum
                generalize numL (((txt s).drop p).take k) 0 = nn at hnum htk
                rcases hnum with ⟨hn1, hn2⟩ | ⟨hn1, hn2, hn3⟩
                · rw [if_pos hn1] at htk
                  refine rr ?_
                  refine w_turn (fun w hw => hw.row_nil 31 4) ?_
                  have hr2 : res = ([], p, 3) := by rw [← hr, htk]; rfl
                  subst hr2
                  exact we (none, 0) [0] trivial
                · subst hn2
                  rw [if_neg (by omega)] at htk
                  rw [htk, if_neg (by simp), comb_cons, List.drop_drop] at hr
                  refine rr ?_
                  intro d' _
                  refine rr ?_
                  rintro ⟨a', c'⟩ ⟨hc3, _⟩
                  dsimp only at hc3 ⊢
                  refine rr ?_
                  refine w_round hK1 (l0 ++ [(⟨2, [], n⟩, p)], p + k, a', c') ⟨by show p + k ≤ s.size; omega, by simp; omega, hr⟩ (by show s.size - (p + k) < s.size - p; omega) ?_ ⟨rfl, ?_, rfl, trivial⟩
                  · rw [tokC_app, tokC_one, List.length_append]; rfl
                  · rw [List.length_append]; rfl
            · have hend : (txt s).drop q = [] := List.drop_of_length_le (by rw [txt_len]; omega)
              rw [hend] at hsat hq5
              simp only [runL, List.take_nil] at hsat hq5
              refine rr ?_
              obtain ⟨k, rfl⟩ : ∃ k, q = p + k := ⟨q - p, by omega⟩
              simp only [Nat.add_sub_cancel_left] at hq5 ⊢
              rw [Nat.add_zero] at hq5
              rw [hq5] at htk hsat
              have hk1 : 1 ≤ k := by
                rw [← hq5, hdr]
                exact runL_pos hl2
              have hall2 : ∀ c ∈ ((txt s).drop p).take k, isDigit (c.toNat : Int) = true := by rw [← hq5]; exact hall
              have hnum := satL_num (((txt s).drop p).take k) 0 hall2 (by decide) (by decide)
              rw [hsat] at hnum
              simp only [satL] at hnum
              generalize numL (((txt s).drop p).take k) 0 = nn at hnum htk
              rcases hnum with ⟨hn1, hn2⟩ | ⟨hn1, hn2, hn3⟩
              · rw [if_pos hn1] at htk
                refine rr ?_
                refine w_turn (fun w hw => hw.row_nil 31 4) ?_
                have hr2 : res = ([], p, 3) := by rw [← hr, htk]; rfl
                subst hr2
                exact we (none, 0) [0] trivial
              · subst hn2
                rw [if_neg (by omega)] at htk
                rw [htk, if_neg (by simp), comb_cons, List.drop_drop] at hr
                refine rr ?_
                intro d' _
                refine rr ?_
                rintro ⟨a', c'⟩ ⟨hc3, _⟩
                dsimp only at hc3 ⊢
                refine rr ?_
                refine w_round hK1 (l0 ++ [(⟨2, [], n⟩, p)], p + k, a', c') ⟨by show p + k ≤ s.size; omega, by simp; omega, hr⟩ (by show s.size - (p + k) < s.size - p; omega) ?_ ⟨rfl, ?_, rfl, trivial⟩
                · rw [tokC_app, tokC_one, List.length_append]; rfl
                · rw [List.length_append]; rfl
          | false =>
            rw [hl2, if_neg (by simp)] at htk
            refine rr ?_
            refine ca [] (rOneC b) ?_
            intro x hx
            try simp only [List.cons_append, List.nil_append, List.append_nil]
            cases ho : onesL.contains b with
            | false =>
              rw [signR_none hb ho, if_pos rfl] at htk
              refine rr ?_
              refine w_turn (fun w hw => hw.row_nil 31 4) ?_
              have hr2 : res = ([], p, 2) := by rw [← hr, htk]; rfl
              subst hr2
              exact we (none, 0) [0] trivial
            | true =>
              by_cases hlt2 : p + 1 < s.size
              · obtain ⟨c, hc⟩ := get_some (l := txt s) (i := p + 1) (by rw [txt_len]; exact hlt2)
                have hc' : s[((p : Int) + 1).toNat]? = some c := by
                  rw [show ((p : Int) + 1).toNat = p + 1 by omega]; exact txt_get s _ c hc
                refine rr ?_
                refine ca [] (rTwoC (b.toNat : Int) (c.toNat : Int)) ?_
                intro x hx
                try simp only [List.cons_append, List.nil_append, List.append_nil]
                rw [two_int]
                cases htw : two b c with
                | true =>
                  rw [signR_two hb hc htw, if_neg (by decide)] at htk
                  rw [htk, if_neg (by simp), comb_cons, List.drop_drop] at hr
                  refine rr ?_
                  intro d' _
                  refine rr ?_
                  rintro ⟨a', c'⟩ ⟨hc3, _⟩
                  dsimp only at hc3 ⊢
                  refine rr ?_
                  refine w_round hK1 (l0 ++ [(⟨3, ((txt s).drop p).take 2, 0⟩, p)], p + 2, a', c') ⟨by show p + 2 ≤ s.size; omega, by simp; omega, hr⟩ (by show s.size - (p + 2) < s.size - p; omega) ?_ ⟨rfl, ?_, rfl, trivial⟩
                  · have he : s.extract (p : Int).toNat ((p : Int) + 1 + 1).toNat = bs (((txt s).drop p).take 2) := by rw [show (p : Int).toNat = p by omega, show ((p : Int) + 1 + 1).toNat = p + 2 by omega, take_drop]
                    rw [tokC_app, tokC_one, List.length_append]
                    show [row _ _ _ _ _ (tokC l0 ++ [_, .string (s.extract (p : Int).toNat ((p : Int) + 1 + 1).toNat), _, _])] = _
                    rw [he]; rfl
                  · rw [List.length_append]; rfl
                | false =>
                  rw [signR_one hb ho (fun d hd => by rw [hc] at hd; cases hd; exact htw), if_neg (by decide)] at htk
                  rw [htk, if_neg (by simp), comb_cons, List.drop_drop] at hr
                  refine rr ?_
                  intro d' _
                  refine rr ?_
                  rintro ⟨a', c'⟩ ⟨hc3, _⟩
                  dsimp only at hc3 ⊢
                  refine rr ?_
                  refine w_round hK1 (l0 ++ [(⟨3, ((txt s).drop p).take 1, 0⟩, p)], p + 1, a', c') ⟨by show p + 1 ≤ s.size; omega, by simp; omega, hr⟩ (by show s.size - (p + 1) < s.size - p; omega) ?_ ⟨rfl, ?_, rfl, trivial⟩
                  · have he : s.extract (p : Int).toNat ((p : Int) + 1).toNat = bs (((txt s).drop p).take 1) := by rw [show (p : Int).toNat = p by omega, show ((p : Int) + 1).toNat = p + 1 by omega, take_drop]
                    rw [tokC_app, tokC_one, List.length_append]
                    show [row _ _ _ _ _ (tokC l0 ++ [_, .string (s.extract (p : Int).toNat ((p : Int) + 1).toNat), _, _])] = _
                    rw [he]; rfl
                  · rw [List.length_append]; rfl
              · rw [signR_one hb ho (fun d hd => by have := (List.getElem?_eq_some_iff.1 hd).1; rw [txt_len] at this; omega), if_neg (by decide)] at htk
                rw [htk, if_neg (by simp), comb_cons, List.drop_drop] at hr
                refine rr ?_
                intro d' _
                refine rr ?_
                rintro ⟨a', c'⟩ ⟨hc3, _⟩
                dsimp only at hc3 ⊢
                refine rr ?_
                refine w_round hK1 (l0 ++ [(⟨3, ((txt s).drop p).take 1, 0⟩, p)], p + 1, a', c') ⟨by show p + 1 ≤ s.size; omega, by simp; omega, hr⟩ (by show s.size - (p + 1) < s.size - p; omega) ?_ ⟨rfl, ?_, rfl, trivial⟩
                · have he : s.extract (p : Int).toNat ((p : Int) + 1).toNat = bs (((txt s).drop p).take 1) := by rw [show (p : Int).toNat = p by omega, show ((p : Int) + 1).toNat = p + 1 by omega, take_drop]
                  rw [tokC_app, tokC_one, List.length_append]
                  show [row _ _ _ _ _ (tokC l0 ++ [_, .string (s.extract (p : Int).toNat ((p : Int) + 1).toNat), _, _])] = _
                  rw [he]; rfl
                · rw [List.length_append]; rfl
  · obtain rfl : p = s.size := by omega
    have hr2 : res = (l0, 0, 0) := by rw [← hr, List.drop_of_length_le (by rw [txt_len]; exact Nat.le_refl _)]; unfold comb; simp [scanD_nil]
    subst hr2
    refine rr ?_
    exact we (ao, cap) [0] trivial
end Go.Proofs.Yteafgnbkeghmdaa

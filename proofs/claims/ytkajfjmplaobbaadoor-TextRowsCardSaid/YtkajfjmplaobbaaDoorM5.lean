/- Texts of the proof, in their order: Tp2, Tp3, Tl1, Tl2, Tl3, SxT, SxO, Dr1. -/
import Derived.Test.YtkajfjmplaobbaaDoorM4
import Derived.Test.YtkajfjmplaobbaaDoorM2
import Derived.HandedShaped
import Derived.SizedLaws
import Derived.Test.YtkajfjmplaobbaaDoorRows
import Derived.Stop.LaidErr
import Derived.Lib.LaidTab
import Derived.MakeChecks
import Derived.LaidLaws
set_option linter.unusedVariables false
set_option linter.unusedSimpArgs false
namespace Go.Proofs.YtkajfjmplaobbaaDoor
open Go
set_option linter.unusedVariables false
set_option linter.unusedSimpArgs false

theorem nm_low : ∀ k : Fin 21, (nmL.getD k.val []).all (fun c => decide (97 ≤ c.toNat) && decide (c.toNat ≤ 122)) = true := by decide
theorem nm_ne : ∀ k : Fin 21, nmL.getD k.val [] ≠ [] := by decide
theorem nm_op : ∀ k : Fin 21, opF (nmL.getD k.val []) = (k.val : Int) := by decide +kernel
theorem nm_nil : opF [] = -1 := by decide +kernel
theorem fo_let : ∀ k : Fin 21, (foL.getD k.val []).all (fun c => c == 45 || c == 97 || c == 98 || c == 99 || c == 105) = true := by decide
theorem good_zero {i : In} (h : goodI i = true) : (hasA i.op = false → i.a = 0) ∧ (hasB i.op = false → i.b = 0) ∧ (hasC i.op = false → i.c = 0) ∧ (hasI i.op = false → i.imm = 0) := by
  unfold goodI at h
  simp only [Bool.and_eq_true, Bool.or_eq_true, decide_eq_true_eq] at h
  obtain ⟨⟨⟨⟨ho, ha⟩, hb⟩, hc⟩, hi⟩ := h
  have hr : ∀ (n : Int) (had : Bool), regI n had = true → had = false → n = 0 := fun n had h e => by
    unfold regI at h
    rw [e] at h
    simpa using h
  refine ⟨hr _ _ ha, hr _ _ hb, hr _ _ hc, fun e => ?_⟩
  rcases hi with hi | ⟨hi, _⟩
  · exact hi
  · rw [e] at hi; cases hi
section
variable {i : In} (hg : goodI i = true)
include hg
theorem op_rng : 0 ≤ i.op ∧ i.op ≤ 20 := ⟨(good_parts hg).1, (good_parts hg).2.1⟩
theorem name_low : ∀ c ∈ nameOf i, 97 ≤ c.toNat ∧ c.toNat ≤ 122 := by
  have ho := op_rng hg
  have := nm_low ⟨i.op.toNat, by omega⟩
  rw [List.all_eq_true] at this
  intro c hc
  have := this c hc
  simpa using this
theorem name_ne : nameOf i ≠ [] := by
  have ho := op_rng hg
  exact nm_ne ⟨i.op.toNat, by omega⟩
theorem name_op : opF (nameOf i) = i.op := by
  have ho := op_rng hg
  have := nm_op ⟨i.op.toNat, by omega⟩
  rw [show nameOf i = nmL.getD (⟨i.op.toNat, by omega⟩ : Fin 21).val [] from rfl, this]
  show ((i.op.toNat : Nat) : Int) = i.op
  omega
theorem name_no32 : (32 : UInt8) ∉ nameOf i := fun h => by
  have := name_low hg 32 h
  exact absurd this (by decide)
end
/-- The words of an instruction's text. -/
def wsF (i : In) : List (List UInt8) := prtsF i (formF i)
theorem text_ws {i : In} (hg : goodI i = true) : textF i = if wsF i = [] then nameOf i else nameOf i ++ 32 :: Lib.join (wsF i) [44] := by
  unfold textF wsF
  rw [if_neg (by rw [hg]; decide)]
  split
  · rfl
  · simp
def wordP (w : List UInt8) : Prop := ∃ h t, w = h :: t ∧ h ≠ 44 ∧ h ≠ 32 ∧ h ≠ 10 ∧ (∀ c ∈ t, dgB c = true)
theorem word_itoa (n : Int) : wordP (Lib.itoa n) := by
  unfold Lib.itoa
  split
  · exact ⟨45, _, rfl, by decide, by decide, by decide, dec_digs _⟩
  · have hd := dec_digs n.toNat
    cases hc : Lib.decDigits n.toNat with
    | nil => exact absurd hc (dec_ne _)
    | cons c t =>
      rw [hc] at hd
      have h0 := hd c (by simp)
      exact ⟨c, t, rfl, fun e => by rw [e] at h0; exact absurd h0 (by decide), fun e => by rw [e] at h0; exact absurd h0 (by decide), fun e => by rw [e] at h0; exact absurd h0 (by decide), fun x hx => hd x (by simp [hx])⟩
theorem word_rg {n : Int} (h : 0 ≤ n) : wordP (rg n) := by
  refine ⟨114, Lib.itoa n, rfl, by decide, by decide, by decide, ?_⟩
  unfold Lib.itoa
  rw [if_neg (by omega)]
  exact dec_digs _
theorem word_no {w : List UInt8} (h : wordP w) {c : UInt8} (hc : c = 44 ∨ c = 32 ∨ c = 10) : c ∉ w := by
  obtain ⟨x, t, rfl, h1, h2, h3, h4⟩ := h
  intro hm
  rcases List.mem_cons.1 hm with e | hm
  · subst e
    rcases hc with e | e | e
    · exact h1 e
    · exact h2 e
    · exact h3 e
  · have := h4 c hm
    rcases hc with e | e | e <;> (rw [e] at this; exact absurd this (by decide))
theorem ws_word {i : In} (hg : goodI i = true) : ∀ w ∈ wsF i, wordP w := by
  obtain ⟨h1, h2, h3, h4, h5, h6, h7, h8, _⟩ := good_parts hg
  intro w hw
  obtain ⟨c, hc, hcw⟩ := List.mem_flatMap.1 hw
  have hl := fo_let ⟨i.op.toNat, by omega⟩
  rw [List.all_eq_true] at hl
  have := hl c hc
  simp only [Bool.or_eq_true, beq_iff_eq] at this
  unfold prtF at hcw
  rcases this with (((rfl | rfl) | rfl) | rfl) | rfl
  · simp at hcw
  · rw [if_neg (by decide), if_neg (by decide), List.mem_singleton] at hcw
    rw [hcw]
    exact word_rg (n := i.a) h3
  · rw [if_neg (by decide), if_neg (by decide), List.mem_singleton] at hcw
    rw [hcw]
    exact word_rg (n := i.b) h5
  · rw [if_neg (by decide), if_neg (by decide), List.mem_singleton] at hcw
    rw [hcw]
    exact word_rg (n := i.c) h7
  · rw [if_neg (by decide), if_pos (by decide), List.mem_singleton] at hcw
    rw [hcw]
    exact word_itoa _
/-- The words, by the kind of operation. -/
theorem ws_cases {i : In} (hg : goodI i = true) : (i.op = 0 ∧ foL.getD i.op.toNat [] = [45] ∧ wsF i = []) ∨ ((1 ≤ i.op ∧ i.op ≤ 9) ∧ foL.getD i.op.toNat [] = [97, 98, 99] ∧ wsF i = [rg i.a, rg i.b, rg i.c] ∧ i.imm = 0)
    ∨ ((10 ≤ i.op ∧ i.op ≤ 16 ∧ i.op ≠ 11) ∧ foL.getD i.op.toNat [] = [97, 98, 105] ∧ wsF i = [rg i.a, rg i.b, Lib.itoa i.imm] ∧ i.c = 0) ∨ (i.op = 11 ∧ foL.getD i.op.toNat [] = [97, 105] ∧ wsF i = [rg i.a, Lib.itoa i.imm] ∧ i.b = 0 ∧ i.c = 0)
    ∨ ((i.op = 17 ∨ i.op = 18 ∨ i.op = 20) ∧ foL.getD i.op.toNat [] = [105] ∧ wsF i = [Lib.itoa i.imm] ∧ i.a = 0 ∧ i.b = 0 ∧ i.c = 0) ∨ (i.op = 19 ∧ foL.getD i.op.toNat [] = [97] ∧ wsF i = [rg i.a] ∧ i.b = 0 ∧ i.c = 0 ∧ i.imm = 0) := by
  have ho := op_rng hg
  obtain ⟨za, zb, zc, zi⟩ := good_zero hg
  have hw : ∀ f, foL.getD i.op.toNat [] = f → wsF i = prtsF i f := fun f h => by unfold wsF formF; rw [h]
  by_cases h0 : i.op = 0
  · have hf := fo0 ⟨i.op.toNat, by omega⟩ (by dsimp only; omega)
    exact .inl ⟨h0, hf, by rw [hw _ hf]; rfl⟩
  by_cases h1 : i.op ≤ 9
  · have hf := fo1 ⟨i.op.toNat, by omega⟩ (by dsimp only; omega) (by dsimp only; omega)
    exact .inr (.inl ⟨by omega, hf, by rw [hw _ hf]; rfl, zi (by unfold hasI; simp; omega)⟩)
  by_cases h2 : i.op = 11
  · have hf := fo3 ⟨i.op.toNat, by omega⟩ (by dsimp only; omega)
    exact .inr (.inr (.inr (.inl ⟨h2, hf, by rw [hw _ hf]; rfl, zb (by unfold hasB; simp; omega), zc (by unfold hasC; simp; omega)⟩)))
  by_cases h3 : i.op ≤ 16
  · have hf := fo2 ⟨i.op.toNat, by omega⟩ (by dsimp only; omega) (by dsimp only; omega) (by dsimp only; omega)
    exact .inr (.inr (.inl ⟨by omega, hf, by rw [hw _ hf]; rfl, zc (by unfold hasC; simp; omega)⟩))
  by_cases h4 : i.op = 19
  · have hf := fo5 ⟨i.op.toNat, by omega⟩ (by dsimp only; omega)
    exact .inr (.inr (.inr (.inr (.inr ⟨h4, hf, by rw [hw _ hf]; rfl, zb (by unfold hasB; simp; omega), zc (by unfold hasC; simp; omega), zi (by unfold hasI; simp; omega)⟩))))
  · have hf := fo4 ⟨i.op.toNat, by omega⟩ (by dsimp only; omega)
    exact .inr (.inr (.inr (.inr (.inl ⟨by omega, hf, by rw [hw _ hf]; rfl, za (by unfold hasA; simp; omega), zb (by unfold hasB; simp; omega), zc (by unfold hasC; simp; omega)⟩))))
theorem pI_r {c : UInt8} {fs : List UInt8} {n : Int} {ws : List (List UInt8)} {i : In} (h0 : -32768 ≤ n) (h1 : n ≤ 32767) : parseI (c :: fs) (rg n :: ws) i = parseI fs ws (withF i (c.toNat : Int) n) := by
  show (match Lib.atoiAll (Lib.trimPrefix (rg n) [114]) with | .ok n => parseI fs ws (withF i (c.toNat : Int) n) | _ => none) = _
  rw [trim_rg, atoi_itoa h0 h1]
theorem pI_i {c : UInt8} {fs : List UInt8} {n : Int} {ws : List (List UInt8)} {i : In} (h0 : -32768 ≤ n) (h1 : n ≤ 32767) : parseI (c :: fs) (Lib.itoa n :: ws) i = parseI fs ws (withF i (c.toNat : Int) n) := by
  show (match Lib.atoiAll (Lib.trimPrefix (Lib.itoa n) [114]) with | .ok n => parseI fs ws (withF i (c.toNat : Int) n) | _ => none) = _
  rw [trim_itoa, atoi_itoa h0 h1]
theorem tp45 : Lib.trimPrefix [45] [45] = [] ∧ Lib.trimPrefix [97, 98, 99] [45] = [97, 98, 99] ∧ Lib.trimPrefix [97, 98, 105] [45] = [97, 98, 105] ∧ Lib.trimPrefix [97, 105] [45] = [97, 105] ∧ Lib.trimPrefix [105] [45] = [105] ∧ Lib.trimPrefix [97] [45] = [97] := by decide
/-- The words of a text, laid into an operation's parts. -/
theorem body_ws {j : In} (hg : goodI j = true) (rest : List UInt8) (hr : if wsF j = [] then rest = [] else rest = Lib.join (wsF j) [44]) : bodyF j.op rest = some j := by
  obtain ⟨ho1, ho2, a1, a2, b1, b2, c1, c2, i1, i2, _⟩ := good_parts hg
  have hws := ws_word hg
  obtain ⟨t0, t1, t2, t3, t4, t5⟩ := tp45
  have hsp : wsF j ≠ [] → Lib.split rest [44] = wsF j := fun h => by
    rw [if_neg h] at hr
    rw [hr]
    exact split_join h (fun w hw => word_no (hws w hw) (.inl rfl))
  obtain ⟨jop, ja, jb, jc, ji⟩ := j
  dsimp only at *
  unfold bodyF
  rcases ws_cases hg with ⟨h, hf, hw⟩ | ⟨h, hf, hw, hz⟩ | ⟨h, hf, hw, hz⟩ | ⟨h, hf, hw, hz, hz2⟩ | ⟨h, hf, hw, hz, hz2, hz3⟩ | ⟨h, hf, hw, hz, hz2, hz3⟩ <;> dsimp only at hf hw
  · obtain ⟨za, zb, zc, zi⟩ := good_zero hg
    dsimp only at za zb zc zi h
    subst h
    rw [show ja = 0 from za (by decide), show jb = 0 from zb (by decide), show jc = 0 from zc (by decide), show ji = 0 from zi (by decide), hf, t0, parseI_nil]
  · rw [hf, t1, hsp (by rw [hw]; simp), hw, pI_r (by omega) (by omega), pI_r (by omega) (by omega), pI_r (by omega) (by omega), parseI_nil]
    dsimp only at hz
    subst hz
    rfl
  · rw [hf, t2, hsp (by rw [hw]; simp), hw, pI_r (by omega) (by omega), pI_r (by omega) (by omega), pI_i (by omega) (by omega), parseI_nil]
    dsimp only at hz
    subst hz
    rfl
  · rw [hf, t3, hsp (by rw [hw]; simp), hw, pI_r (by omega) (by omega), pI_i (by omega) (by omega), parseI_nil]
    dsimp only at hz hz2
    subst hz hz2
    rfl
  · rw [hf, t4, hsp (by rw [hw]; simp), hw, pI_i (by omega) (by omega), parseI_nil]
    dsimp only at hz hz2 hz3
    subst hz hz2 hz3
    rfl
  · rw [hf, t5, hsp (by rw [hw]; simp), hw, pI_r (by omega) (by omega), parseI_nil]
    dsimp only at hz hz2 hz3
    subst hz hz2 hz3
    rfl
theorem parse_text {j : In} (hg : goodI j = true) : parseF (textF j) = some j := by
  have ho := op_rng hg
  have hn := name_no32 hg
  have hop := name_op hg
  have hc : ∃ b, Lib.cut (textF j) [32] = (nameOf j, (if wsF j = [] then [] else Lib.join (wsF j) [44]), b) := by
    rw [text_ws hg]
    by_cases h : wsF j = []
    · rw [if_pos h, if_pos h]
      exact ⟨false, cut_miss hn⟩
    · rw [if_neg h, if_neg h]
      exact ⟨true, cut_hit hn⟩
  obtain ⟨b, hc⟩ := hc
  unfold parseF
  rw [hc]
  dsimp only
  rw [hop, if_neg (by omega), body_ws hg _ (by split <;> rfl)]
  dsimp only
  rw [if_pos rfl]
theorem text_inj {i j : In} (hi : goodI i = true) (hj : goodI j = true) (h : textF i = textF j) : i = j := by
  have h1 := parse_text hi
  have h2 := parse_text hj
  rw [h, h2] at h1
  cases h1
  rfl
/-- What is parsed has that text, and is right. -/
theorem parse_sound {s : List UInt8} {i : In} (h : parseF s = some i) : textF i = s ∧ goodI i = true := by
  have ht : textF i = s := by
    unfold parseF at h
    split at h
    · cases h
    · split at h
      · cases h
      · split at h
        · rename_i he
          cases h
          exact he
        · cases h
  refine ⟨ht, ?_⟩
  cases hg : goodI i with
  | true => rfl
  | false =>
    have e : textF i = [] := by unfold textF; rw [if_pos hg]
    rw [e] at ht
    rw [← ht] at h
    have : parseF [] = none := by
      unfold parseF
      rw [show (Lib.cut [] [32] : List UInt8 × List UInt8 × Bool) = ([], [], false) from rfl]
      dsimp only
      rw [nm_nil, if_pos (by decide)]
    rw [this] at h
    cases h
/-! ### The reference -/
theorem find_some {s : List UInt8} {i : In} : ∀ {n : Nat} {op a b c : Int}, srchF s a b c n op = some i → hitF s i = true
  | 0, op, a, b, c, h => by cases h
  | n + 1, op, a, b, c, h => by
    unfold srchF at h
    split at h
    · rename_i e he
      cases h
      exact List.find?_some he
    · exact find_some h
theorem srch_hit {s : List UInt8} {e : In} {a b c : Int} (hh : hitF s e = true) : ∀ (n : Nat) (op : Int) (k : Nat), k < n → e ∈ candF (op + k) a b c → ∃ i, srchF s a b c n op = some i
  | 0, op, k, hk, _ => by omega
  | n + 1, op, k, hk, he => by
    unfold srchF
    split
    · rename_i x hx
      exact ⟨x, rfl⟩
    · rename_i hx
      cases k with
      | zero =>
        rw [Int.natCast_zero, Int.add_zero] at he
        have := List.find?_eq_none.1 hx e he
        exact absurd hh this
      | succ k => exact srch_hit hh n (op + 1) k (by omega) (by rw [show op + 1 + (k : Int) = op + ((k + 1 : Nat) : Int) by omega]; exact he)
theorem dull_low {c : UInt8} (h : 97 ≤ c.toNat ∧ c.toNat ≤ 122) : dull c = true := by
  unfold dull dgB
  simp only [Bool.and_eq_true, Bool.not_eq_true', decide_eq_false_iff_not, decide_eq_true_eq]
  refine ⟨by omega, fun e => ?_⟩
  rw [e] at h
  exact absurd h (by decide)
theorem noDg_44 (l : List UInt8) : noDg (44 :: l) := noDg_cons (by decide)
theorem nums_rg {n : Int} (h0 : -32768 ≤ n) (h1 : n ≤ 32767) {rest : List UInt8} (hr : noDg rest) : numsL 0 (rg n ++ rest) = n :: numsL 0 rest := by
  have := numsL_dull [114] (Lib.itoa n ++ rest) (by decide)
  rw [← numsL_itoa h0 h1 hr]
  exact this
theorem nums_44 (l : List UInt8) : numsL 0 (44 :: l) = numsL 0 l := numsL_dull [44] l (by decide)
theorem nums_32 (l : List UInt8) : numsL 0 (32 :: l) = numsL 0 l := numsL_dull [32] l (by decide)
theorem join3 (a b c : List UInt8) : Lib.join [a, b, c] [44] = a ++ (44 :: (b ++ (44 :: c))) := by rw [Lib.join_cons]; simp [Lib.joinTail]
theorem join2 (a b : List UInt8) : Lib.join [a, b] [44] = a ++ (44 :: b) := by rw [Lib.join_cons]; simp [Lib.joinTail]
theorem nums_nil : numsL 0 [] = [] := rfl
theorem ref_text {j : In} (hg : goodI j = true) : refF (textF j) = some j := by
  obtain ⟨ho1, ho2, a1, a2, b1, b2, c1, c2, i1, i2, _⟩ := good_parts hg
  have hh : hitF (textF j) j = true := by unfold hitF; rw [hg]; simp
  have hnm : ∀ rest, numsL 0 (nameOf j ++ rest) = numsL 0 rest := fun rest => numsL_dull _ _ (fun c hc => dull_low (name_low hg c hc))
  have key : j ∈ candF ((0 : Int) + (j.op.toNat : Nat)) ((padF (numsL 0 (textF j))).getD 0 0) ((padF (numsL 0 (textF j))).getD 1 0) ((padF (numsL 0 (textF j))).getD 2 0) := by
    rw [show (0 : Int) + (j.op.toNat : Nat) = j.op by omega, text_ws hg]
    rcases ws_cases hg with ⟨h, hf, hw⟩ | ⟨h, hf, hw, hz⟩ | ⟨h, hf, hw, hz⟩ | ⟨h, hf, hw, hz, hz2⟩ | ⟨h, hf, hw, hz, hz2, hz3⟩ | ⟨h, hf, hw, hz, hz2, hz3⟩
    · rw [if_pos hw]
      obtain ⟨za, zb, zc, zi⟩ := good_zero hg
      have := hnm []
      rw [List.append_nil, nums_nil] at this
      rw [this]
      have e : j = ⟨j.op, 0, 0, 0, 0⟩ := by
        obtain ⟨jop, ja, jb, jc, ji⟩ := j
        dsimp only at *
        subst h
        rw [show ja = 0 from za (by decide), show jb = 0 from zb (by decide), show jc = 0 from zc (by decide), show ji = 0 from zi (by decide)]
      have : (⟨j.op, 0, 0, 0, 0⟩ : In) ∈ candF j.op ((padF []).getD 0 0) ((padF []).getD 1 0) ((padF []).getD 2 0) := by unfold candF; simp
      rw [← e] at this
      exact this
    · rw [if_neg (by rw [hw]; simp), hnm, nums_32, hw, join3, nums_rg (by omega) (by omega) (noDg_44 _), nums_44, nums_rg (by omega) (by omega) (noDg_44 _), nums_44, ← List.append_nil (rg j.c), nums_rg (by omega) (by omega) noDg_nil, nums_nil]
      show j ∈ candF j.op j.a j.b j.c
      unfold candF
      rw [show j = ⟨j.op, j.a, j.b, j.c, 0⟩ by obtain ⟨x1, x2, x3, x4, x5⟩ := j; dsimp only at hz; dsimp only; rw [hz]]
      simp
    · rw [if_neg (by rw [hw]; simp), hnm, nums_32, hw, join3, nums_rg (by omega) (by omega) (noDg_44 _), nums_44, nums_rg (by omega) (by omega) (noDg_44 _), nums_44, ← List.append_nil (Lib.itoa j.imm), numsL_itoa (by omega) (by omega) noDg_nil, nums_nil]
      show j ∈ candF j.op j.a j.b j.imm
      unfold candF
      rw [show j = ⟨j.op, j.a, j.b, 0, j.imm⟩ by obtain ⟨x1, x2, x3, x4, x5⟩ := j; dsimp only at hz; dsimp only; rw [hz]]
      simp
    · rw [if_neg (by rw [hw]; simp), hnm, nums_32, hw, join2, nums_rg (by omega) (by omega) (noDg_44 _), nums_44, ← List.append_nil (Lib.itoa j.imm), numsL_itoa (by omega) (by omega) noDg_nil, nums_nil]
      show j ∈ candF j.op j.a j.imm 0
      unfold candF
      rw [show j = ⟨j.op, j.a, 0, 0, j.imm⟩ by obtain ⟨x1, x2, x3, x4, x5⟩ := j; dsimp only at hz hz2; dsimp only; rw [hz, hz2]]
      simp
    · rw [if_neg (by rw [hw]; simp), hnm, nums_32, hw, Lib.join_one, ← List.append_nil (Lib.itoa j.imm), numsL_itoa (by omega) (by omega) noDg_nil, nums_nil]
      show j ∈ candF j.op j.imm 0 0
      unfold candF
      rw [show j = ⟨j.op, 0, 0, 0, j.imm⟩ by obtain ⟨x1, x2, x3, x4, x5⟩ := j; dsimp only at hz hz2 hz3; dsimp only; rw [hz, hz2, hz3]]
      simp
    · rw [if_neg (by rw [hw]; simp), hnm, nums_32, hw, Lib.join_one, ← List.append_nil (rg j.a), nums_rg (by omega) (by omega) noDg_nil, nums_nil]
      show j ∈ candF j.op j.a 0 0
      unfold candF
      rw [show j = ⟨j.op, j.a, 0, 0, 0⟩ by obtain ⟨x1, x2, x3, x4, x5⟩ := j; dsimp only at hz hz2 hz3; dsimp only; rw [hz, hz2, hz3]]
      simp
  obtain ⟨i, hi⟩ := srch_hit hh 21 0 j.op.toNat (by omega) key
  have hs := find_some hi
  unfold hitF at hs
  simp only [Bool.and_eq_true, decide_eq_true_eq] at hs
  have : i = j := text_inj hs.1 hg hs.2
  unfold refF
  rw [hi, this]
theorem parse_ref (s : List UInt8) : parseF s = refF s := by
  cases hp : parseF s with
  | some i =>
    obtain ⟨h1, h2⟩ := parse_sound hp
    rw [← h1]
    exact (ref_text h2).symm
  | none =>
    cases hr : refF s with
    | none => rfl
    | some i =>
      have hs := find_some hr
      unfold hitF at hs
      simp only [Bool.and_eq_true, decide_eq_true_eq] at hs
      rw [← hs.2, parse_text hs.1] at hp
      cases hp
end Go.Proofs.YtkajfjmplaobbaaDoor
namespace Go.Proofs.YtkajfjmplaobbaaDoor
open Go
set_option linter.unusedVariables false
set_option linter.unusedSimpArgs false

def plainB (c : UInt8) : Bool := decide (c.toNat = 32) || (decide (97 ≤ c.toNat) && decide (c.toNat ≤ 122)) || (decide (48 ≤ c.toNat) && decide (c.toNat ≤ 57)) || decide (c.toNat = 44) || decide (c.toNat = 45)
theorem dg_plain {c : UInt8} (h : dgB c = true) : plainB c = true ∧ c ≠ 32 ∧ c ≠ 10 := by
  unfold dgB at h
  simp only [decide_eq_true_eq] at h
  refine ⟨?_, fun e => ?_, fun e => ?_⟩
  · unfold plainB
    simp only [Bool.or_eq_true, Bool.and_eq_true, decide_eq_true_eq]
    omega
  · rw [e] at h; exact absurd h (by decide)
  · rw [e] at h; exact absurd h (by decide)
theorem itoa_plain (n : Int) : ∀ c ∈ Lib.itoa n, plainB c = true ∧ c ≠ 32 ∧ c ≠ 10 := by
  intro c hc
  unfold Lib.itoa at hc
  split at hc
  · rcases List.mem_cons.1 hc with rfl | hc
    · decide
    · exact dg_plain (dec_digs _ c hc)
  · exact dg_plain (dec_digs _ c hc)
theorem rg_plain (n : Int) : ∀ c ∈ rg n, plainB c = true ∧ c ≠ 32 ∧ c ≠ 10 := by
  intro c hc
  rcases List.mem_cons.1 hc with rfl | hc
  · decide
  · exact itoa_plain n c hc
theorem ws_plain {i : In} (hg : goodI i = true) : ∀ c ∈ Lib.join (wsF i) [44], plainB c = true ∧ c ≠ 32 ∧ c ≠ 10 := by
  have h44 : plainB 44 = true ∧ (44 : UInt8) ≠ 32 ∧ (44 : UInt8) ≠ 10 := by decide
  intro c hc
  rcases ws_cases hg with ⟨h, hf, hw⟩ | ⟨h, hf, hw, hz⟩ | ⟨h, hf, hw, hz⟩ | ⟨h, hf, hw, hz, hz2⟩ | ⟨h, hf, hw, hz, hz2, hz3⟩ | ⟨h, hf, hw, hz, hz2, hz3⟩
  · rw [hw, Lib.join_nil] at hc; cases hc
  · rw [hw, join3] at hc
    simp only [List.mem_append, List.mem_cons] at hc
    rcases hc with hc | rfl | hc | rfl | hc
    · exact rg_plain _ c hc
    · exact h44
    · exact rg_plain _ c hc
    · exact h44
    · exact rg_plain _ c hc
  · rw [hw, join3] at hc
    simp only [List.mem_append, List.mem_cons] at hc
    rcases hc with hc | rfl | hc | rfl | hc
    · exact rg_plain _ c hc
    · exact h44
    · exact rg_plain _ c hc
    · exact h44
    · exact itoa_plain _ c hc
  · rw [hw, join2] at hc
    simp only [List.mem_append, List.mem_cons] at hc
    rcases hc with hc | rfl | hc
    · exact rg_plain _ c hc
    · exact h44
    · exact itoa_plain _ c hc
  · rw [hw, Lib.join_one] at hc
    exact itoa_plain _ c hc
  · rw [hw, Lib.join_one] at hc
    exact rg_plain _ c hc
theorem low_plain {c : UInt8} (h : 97 ≤ c.toNat ∧ c.toNat ≤ 122) : plainB c = true ∧ c ≠ 32 ∧ c ≠ 10 := by
  refine ⟨?_, fun e => ?_, fun e => ?_⟩
  · unfold plainB
    simp only [Bool.or_eq_true, Bool.and_eq_true, decide_eq_true_eq]
    omega
  · rw [e] at h; exact absurd h (by decide)
  · rw [e] at h; exact absurd h (by decide)
theorem count_no {l : List UInt8} {c : UInt8} (h : ∀ x ∈ l, x ≠ c) : l.count c = 0 := List.count_eq_zero.2 (fun hc => h c hc rfl)
theorem text_plain {i : In} (hg : goodI i = true) : (∀ c ∈ textF i, plainB c = true ∧ c ≠ 10) ∧ (textF i).count 32 ≤ 1 := by
  have hn : ∀ c ∈ nameOf i, plainB c = true ∧ c ≠ 32 ∧ c ≠ 10 := fun c hc => low_plain (name_low hg c hc)
  have hw := ws_plain hg
  rw [text_ws hg]
  split
  · exact ⟨fun c hc => ⟨(hn c hc).1, (hn c hc).2.2⟩, by rw [count_no (fun c hc => (hn c hc).2.1)]; omega⟩
  · refine ⟨fun c hc => ?_, ?_⟩
    · rcases List.mem_append.1 hc with hc | hc
      · exact ⟨(hn c hc).1, (hn c hc).2.2⟩
      · rcases List.mem_cons.1 hc with rfl | hc
        · decide
        · exact ⟨(hw c hc).1, (hw c hc).2.2⟩
    · rw [List.count_append, List.count_cons, count_no (fun c hc => (hn c hc).2.1), count_no (fun c hc => (hw c hc).2.1)]
      simp
theorem itoa_short {n : Int} (h0 : 0 ≤ n) (h1 : n ≤ 31) : (Lib.itoa n).length ≤ 2 := by
  unfold Lib.itoa
  rw [if_neg (by omega), Lib.decDigits_length]
  rcases Nat.lt_or_ge n.toNat 10 with h | h
  · rw [Lib.nDigits_small h]; omega
  · rw [Lib.nDigits_big (by omega), Lib.nDigits_small (by omega)]; omega
theorem rg_short {n : Int} (h0 : 0 ≤ n) (h1 : n ≤ 31) : (rg n).length ≤ 3 := by have := itoa_short h0 h1; unfold rg; simp; omega
theorem text_short {i : In} (hg : goodI i = true) : (textF i).length ≤ 24 := by
  obtain ⟨ho1, ho2, a1, a2, b1, b2, c1, c2, i1, i2, _⟩ := good_parts hg
  have hn := name_le i
  have ra := rg_short a1 a2
  have rb := rg_short b1 b2
  have rc := rg_short c1 c2
  have ri := itoa_len i.imm i1 i2
  rw [text_ws hg]
  split
  · omega
  · rw [List.length_append, List.length_cons]
    rcases ws_cases hg with ⟨h, hf, hw⟩ | ⟨h, hf, hw, hz⟩ | ⟨h, hf, hw, hz⟩ | ⟨h, hf, hw, hz, hz2⟩ | ⟨h, hf, hw, hz, hz2, hz3⟩ | ⟨h, hf, hw, hz, hz2, hz3⟩
    · rename_i hne; exact absurd hw hne
    · rw [hw, join3]; simp only [List.length_append, List.length_cons]; omega
    · rw [hw, join3]; simp only [List.length_append, List.length_cons]; omega
    · rw [hw, join2]; simp only [List.length_append, List.length_cons]; omega
    · rw [hw, Lib.join_one]; omega
    · rw [hw, Lib.join_one]; omega
theorem text_head {i : In} (hg : goodI i = true) : ∃ c t, textF i = c :: t ∧ 97 ≤ c.toNat ∧ c.toNat ≤ 122 := by
  have hl := name_low hg
  have hne := name_ne hg
  rw [text_ws hg]
  cases hn : nameOf i with
  | nil => exact absurd hn hne
  | cons c t =>
    have := hl c (by rw [hn]; simp)
    split
    · exact ⟨c, t, rfl, this⟩
    · exact ⟨c, _, rfl, this⟩
theorem text_ne {i : In} : textF i = [] ↔ goodI i = false := by
  constructor
  · intro h
    cases hg : goodI i with
    | false => rfl
    | true =>
      obtain ⟨c, t, he, _⟩ := text_head hg
      rw [he] at h
      cases h
  · intro h
    unfold textF
    rw [if_pos h]
theorem parse_upper {l : List UInt8} : parseF (78 :: l) = none := by
  cases hp : parseF (78 :: l) with
  | none => rfl
  | some j =>
    obtain ⟨h1, h2⟩ := parse_sound hp
    obtain ⟨c, t, he, hc⟩ := text_head h2
    rw [he] at h1
    simp only [List.cons.injEq] at h1
    rw [h1.1] at hc
    exact absurd hc (by decide)
/-! ### What stands behind a text -/
theorem app_44 : ∀ {a b x y : List UInt8}, (44 : UInt8) ∉ a → (44 : UInt8) ∉ b → a ++ 44 :: x = b ++ 44 :: y → a = b ∧ x = y
  | [], [], x, y, _, _, h => by simp at h; exact ⟨rfl, h⟩
  | [], c :: b, x, y, _, hb, h => by
    simp only [List.nil_append, List.cons_append, List.cons.injEq] at h
    exact absurd (by rw [← h.1]; simp) hb
  | c :: a, [], x, y, ha, _, h => by
    simp only [List.nil_append, List.cons_append, List.cons.injEq] at h
    exact absurd (by rw [h.1]; simp) ha
  | c :: a, d :: b, x, y, ha, hb, h => by
    simp only [List.cons_append, List.cons.injEq] at h
    obtain ⟨h1, h2⟩ := app_44 (fun e => ha (by simp [e])) (fun e => hb (by simp [e])) h.2
    exact ⟨by rw [h.1, h1], h2⟩
/-- No word has a word, and something behind it that is no digit, as its beginning. -/
theorem word_more {a b m : List UInt8} (ha : wordP a) (hb : wordP b) {c : UInt8} (hm : m.head? = some c) (hc : dgB c = false) : b ≠ a ++ m := by
  intro h
  obtain ⟨x, t, rfl, _⟩ := ha
  obtain ⟨y, u, rfl, _, _, _, hu⟩ := hb
  simp only [List.cons_append, List.cons.injEq] at h
  have hcm : c ∈ u := by
    rw [h.2]
    exact List.mem_append.2 (.inr (List.mem_of_mem_head? hm))
  rw [hu c hcm] at hc
  cases hc
theorem join_more {m : List UInt8} {c : UInt8} (hm : m.head? = some c) (hc : dgB c = false) : ∀ {p q : List (List UInt8)}, p.length = q.length → p ≠ [] → (∀ w ∈ p, wordP w) → (∀ w ∈ q, wordP w) → Lib.join q [44] ≠ Lib.join p [44] ++ m
  | [], q, _, h0, _, _ => absurd rfl h0
  | [a], [b], _, _, hp, hq => by rw [Lib.join_one, Lib.join_one]; exact word_more (hp a (by simp)) (hq b (by simp)) hm hc
  | [a], [], hl, _, _, _ => by simp at hl
  | [a], b :: d :: q, hl, _, _, _ => by simp at hl
  | a :: e :: p, [], hl, _, _, _ => by simp at hl
  | a :: e :: p, [b], hl, _, _, _ => by simp at hl
  | a :: e :: p, b :: d :: q, hl, _, hp, hq => by
    have ih := join_more hm hc (p := e :: p) (q := d :: q) (by simpa using hl) (by simp) (fun w hw => hp w (by simp [hw])) (fun w hw => hq w (by simp [hw]))
    have ea : Lib.join (a :: e :: p) [44] = a ++ 44 :: Lib.join (e :: p) [44] := by rw [Lib.join_cons, Lib.join_cons]; simp [Lib.joinTail]
    have eb : Lib.join (b :: d :: q) [44] = b ++ 44 :: Lib.join (d :: q) [44] := by rw [Lib.join_cons, Lib.join_cons]; simp [Lib.joinTail]
    rw [ea, eb]
    intro h
    rw [List.append_assoc] at h
    exact ih (app_44 (word_no (hq b (by simp)) (.inl rfl)) (word_no (hp a (by simp)) (.inl rfl)) h).2
theorem ws_len {i j : In} (hi : goodI i = true) (hj : goodI j = true) (h : i.op = j.op) : (wsF i).length = (wsF j).length := by
  rcases ws_cases hi with ⟨h1, _, hw⟩ | ⟨h1, _, hw, _⟩ | ⟨h1, _, hw, _⟩ | ⟨h1, _, hw, _⟩ | ⟨h1, _, hw, _⟩ | ⟨h1, _, hw, _⟩ <;>
  rcases ws_cases hj with ⟨g1, _, gw⟩ | ⟨g1, _, gw, _⟩ | ⟨g1, _, gw, _⟩ | ⟨g1, _, gw, _⟩ | ⟨g1, _, gw, _⟩ | ⟨g1, _, gw, _⟩ <;>
  first
    | (simp [hw, gw]; done)
    | (exfalso; omega)
theorem text_more {i j : In} {m : List UInt8} {c : UInt8} (hg : goodI i = true) (hm : m.head? = some c) (hc : dgB c = false) (h : parseF (textF i ++ m) = some j) : i.op = 0 ∨ j.op ≠ i.op := by
  obtain ⟨h1, h2⟩ := parse_sound h
  by_cases h0 : i.op = 0
  · exact .inl h0
  refine .inr (fun he => ?_)
  have hne : ∀ {x : In}, goodI x = true → x.op = i.op → wsF x ≠ [] := fun hx hxo => by
    rcases ws_cases hx with ⟨g1, _, gw⟩ | ⟨g1, _, gw, _⟩ | ⟨g1, _, gw, _⟩ | ⟨g1, _, gw, _⟩ | ⟨g1, _, gw, _⟩ | ⟨g1, _, gw, _⟩
    · exact absurd (hxo.symm.trans g1) h0
    all_goals (rw [gw]; simp)
  have hnm : nameOf j = nameOf i := by unfold nameOf; rw [he]
  rw [text_ws h2, text_ws hg, if_neg (hne hg rfl), if_neg (hne h2 he), hnm] at h1
  simp only [List.append_assoc, List.cons_append, List.append_cancel_left_eq, List.cons.injEq, true_and] at h1
  exact join_more hm hc (ws_len hg h2 he.symm) (hne hg rfl) (ws_word hg) (ws_word h2) h1
/-! ### Listings -/
theorem list_app : ∀ (a b : List In) (n : Nat), listF n (a ++ b) = listF n a ++ listF (n + a.length) b
  | [], b, n => by simp [listF]
  | x :: a, b, n => by
    have ih := list_app a b (n + 1)
    show rowF n x ++ listF (n + 1) (a ++ b) = rowF n x ++ listF (n + 1) a ++ _
    rw [ih, List.append_assoc, List.length_cons, show n + 1 + a.length = n + (a.length + 1) by omega]
theorem text_no10 (i : In) : (textF i).count 10 = 0 := by
  cases hg : goodI i with
  | false => rw [text_ne.2 hg]; rfl
  | true => exact count_no (fun c hc => ((text_plain hg).1 c hc).2)
theorem row_10 (n : Nat) (i : In) : (rowF n i).count 10 = 1 := by
  unfold rowF
  rw [List.count_append, List.count_append, List.count_append, count_no (fun c hc => (itoa_plain _ c hc).2.2), text_no10]
  rfl
theorem list_10 : ∀ (l : List In) (n : Nat), (listF n l).count 10 = l.length
  | [], n => rfl
  | x :: l, n => by
    show (rowF n x ++ listF (n + 1) l).count 10 = _
    rw [List.count_append, row_10, list_10 l (n + 1), List.length_cons]
    omega
theorem list_le : ∀ (l : List In) (n : Nat), n + l.length ≤ 1000 → (listF n l).length ≤ 40 * l.length
  | [], n, _ => by simp [listF]
  | x :: l, n, h => by
    have ih := list_le l (n + 1) (by simp at h; omega)
    have h1 := itoa_len (n : Int) (by omega) (by simp at h; omega)
    have h2 := text_le x
    show (rowF n x ++ listF (n + 1) l).length ≤ _
    unfold rowF
    simp only [List.length_append, List.length_cons, List.length_nil]
    omega
end Go.Proofs.YtkajfjmplaobbaaDoor
namespace Go.Proofs.YtkajfjmplaobbaaDoor
open Go Go.Sx Go.Sx.Chunk
set_option linter.unusedVariables false
set_option linter.unusedSimpArgs false

theorem itoa_one {n : Nat} (h : n < 10) : Lib.itoa (n : Int) = [UInt8.ofNat (48 + n)] := by rw [itoa_nat, dec_one h]
def aw1 : In := ⟨1, 1, 2, 3, 0⟩
def aw2 : In := ⟨17, 0, 0, 0, 5⟩
theorem aw1_text : textF aw1 = [97, 100, 100, 32, 114, 49, 44, 114, 50, 44, 114, 51] := by
  rw [tx1 (i := aw1) (by decide) (by decide) (by decide)]
  show nameOf aw1 ++ [32] ++ 114 :: Lib.itoa ((1 : Nat) : Int) ++ [44] ++ 114 :: Lib.itoa ((2 : Nat) : Int) ++ [44] ++ 114 :: Lib.itoa ((3 : Nat) : Int) = _
  rw [itoa_one (by decide), itoa_one (by decide), itoa_one (by decide)]
  rfl
theorem aw2_text : textF aw2 = [106, 109, 112, 32, 53] := by
  rw [tx4 (i := aw2) (by decide) (by decide)]
  show nameOf aw2 ++ [32] ++ Lib.itoa ((5 : Nat) : Int) = _
  rw [itoa_one (by decide)]
  rfl
theorem aw3_list : listF 0 [⟨0, 0, 0, 0, 0⟩] = [48, 58, 32, 110, 111, 112, 10] := by
  show Lib.itoa ((0 : Nat) : Int) ++ [58, 32] ++ textF ⟨0, 0, 0, 0, 0⟩ ++ [10] ++ [] = _
  rw [itoa_one (by decide), tx0 (i := ⟨0, 0, 0, 0, 0⟩) (by decide) rfl]
  rfl
/-- The variables of Go's library. -/
def vaB (m : Int) (ev ev2 : Value) : List Chunk := [spaceV, pow10V, maxV m, errV ev, erangeV ev2]
section
variable (m : Int) (ev ev2 : Value) (hev : IfV ev) (hev2 : IfV ev2)
include hev hev2
set_option maxHeartbeats 1000000 in
theorem awakeC : FnC (α := Unit) Tryd.prog 11 [] [] (vaB m ev ev2) (fun _ => .bool true) (fun _ => []) (fun _ => True) := by
  have h1 := parseC ⟨#[97, 100, 100, 32, 114, 49, 44, 114, 50, 44, 114, 51]⟩ (by decide) m ev ev2 hev hev2
  rw [show (⟨#[97, 100, 100, 32, 114, 49, 44, 114, 50, 44, 114, 51]⟩ : ByteArray).data.toList = textF aw1 from aw1_text.symm, parse_text (by decide)] at h1
  have h2 := textC aw2
  rw [aw2_text] at h2
  unfold vaB
  unfold parseV inG aw1 at h1
  unfold inG aw2 at h2
  dsimp only at h1
  refine fn_intro Tryd.func11 Tryd.ntmps11 rfl rfl rfl (fun w0 => ?_)
  try simp only [List.cons_append, List.nil_append, List.append_nil]
  refine rr ?_
  refine cl (h1) ?_
  intro _ _
  try simp only [List.cons_append, List.nil_append, List.append_nil]
  refine rr ?_
  intro b1 _
  refine rr ?_
  refine cl (h2) ?_
  intro _ _
  try simp only [List.cons_append, List.nil_append, List.append_nil]
  refine rr ?_
  intro b2 _
  refine rr ?_
  have h3 := listC (some ⟨b2, 0, none⟩) 1 [⟨0, 0, 0, 0, 0⟩] (by decide)
  rw [aw3_list] at h3
  refine cl (h3) ?_
  intro _ _
  try simp only [List.cons_append, List.nil_append, List.append_nil]
  refine rr ?_
  exact en () trivial
set_option maxHeartbeats 1000000 in
theorem tells_law (i : In) : FnC (α := Unit) Tryd.prog 3 [inG i] [] (vaB m ev ev2) (fun _ => .bool true) (fun _ => []) (fun _ => True) := by
  have haw := awakeC m ev ev2 hev hev2
  have htx := textC i
  have hrt := right02C i
  unfold vaB at haw ⊢
  cases hg : goodI i with
  | false =>
    rw [text_ne.2 hg] at htx
    rw [hg] at hrt
    unfold inG at htx hrt ⊢
    refine fn_intro Tryd.func3 Tryd.ntmps3 rfl rfl rfl (fun w0 => ?_)
    try simp only [List.cons_append, List.nil_append, List.append_nil]
    refine rr ?_
    intro b1 _
    refine rr ?_
    refine cl (htx) ?_
    intro _ _
    try simp only [List.cons_append, List.nil_append, List.append_nil]
    refine rr ?_
    refine cl (hrt) ?_
    intro _ _
    try simp only [List.cons_append, List.nil_append, List.append_nil]
    refine rr ?_
    refine cl (haw) ?_
    intro _ _
    try simp only [List.cons_append, List.nil_append, List.append_nil]
    refine rr ?_
    exact en () trivial
  | true =>
    have hpa := parseC ⟨(textF i).toArray⟩ (by rw [bt_size]; have := text_short hg; omega) m ev ev2 hev hev2
    rw [show (⟨(textF i).toArray⟩ : ByteArray).data.toList = textF i from rfl, parse_text hg] at hpa
    have href := refTextC i hg
    rw [hg] at hrt
    unfold parseV at hpa
    dsimp only at hpa
    unfold inG at htx hrt hpa href ⊢
    refine fn_intro Tryd.func3 Tryd.ntmps3 rfl rfl rfl (fun w0 => ?_)
    try simp only [List.cons_append, List.nil_append, List.append_nil]
    refine rr ?_
    intro b1 _
    refine rr ?_
    refine cl (htx) ?_
    intro _ _
    try simp only [List.cons_append, List.nil_append, List.append_nil]
    refine rr ?_
    refine cl (hrt) ?_
    intro _ _
    try simp only [List.cons_append, List.nil_append, List.append_nil]
    refine rr ?_
    refine cl (hpa) ?_
    intro _ _
    try simp only [List.cons_append, List.nil_append, List.append_nil]
    refine rr ?_
    intro b2 _
    refine rr ?_
    refine cl (href) ?_
    intro _ _
    try simp only [List.cons_append, List.nil_append, List.append_nil]
    refine rr ?_
    refine cl (haw) ?_
    intro _ _
    try simp only [List.cons_append, List.nil_append, List.append_nil]
    refine rr ?_
    exact en () trivial
set_option maxHeartbeats 1000000 in
theorem parses_law (s : ByteArray) : FnC (α := Unit) Tryd.prog 4 [.string s] [] (vaB m ev ev2) (fun _ => .bool true) (fun _ => []) (fun _ => True) := by
  have haw := awakeC m ev ev2 hev hev2
  unfold vaB at haw ⊢
  by_cases hs : 100 < s.size
  · skip
    refine fn_intro Tryd.func4 Tryd.ntmps4 rfl rfl rfl (fun w0 => ?_)
    try simp only [List.cons_append, List.nil_append, List.append_nil]
    refine rr ?_
    refine cl (haw) ?_
    intro _ _
    try simp only [List.cons_append, List.nil_append, List.append_nil]
    refine rr ?_
    exact en () trivial
  · have hpa := parseC s (by omega) m ev ev2 hev hev2
    have hre := refParseC s (by omega)
    rw [← parse_ref] at hre
    cases hp : parseF s.data.toList with
    | none =>
      rw [hp] at hpa hre
      unfold parseV inG at hpa hre
      dsimp only at hpa hre
      refine fn_intro Tryd.func4 Tryd.ntmps4 rfl rfl rfl (fun w0 => ?_)
      try simp only [List.cons_append, List.nil_append, List.append_nil]
      refine rr ?_
      refine cl (hpa) ?_
      intro _ _
      try simp only [List.cons_append, List.nil_append, List.append_nil]
      refine rr ?_
      intro b1 _
      refine rr ?_
      refine cl (hre) ?_
      intro _ _
      try simp only [List.cons_append, List.nil_append, List.append_nil]
      refine rr ?_
      intro b2 _
      refine rr ?_
      refine cl (haw) ?_
      intro _ _
      try simp only [List.cons_append, List.nil_append, List.append_nil]
      refine rr ?_
      exact en () trivial
    | some i =>
      obtain ⟨h1, h2⟩ := parse_sound hp
      have htx := textC i
      rw [h1, show (⟨s.data.toList.toArray⟩ : ByteArray) = s from rfl] at htx
      rw [hp] at hpa hre
      unfold parseV at hpa hre
      dsimp only at hpa hre
      unfold inG at hpa hre htx
      refine fn_intro Tryd.func4 Tryd.ntmps4 rfl rfl rfl (fun w0 => ?_)
      try simp only [List.cons_append, List.nil_append, List.append_nil]
      refine rr ?_
      refine cl (hpa) ?_
      intro _ _
      try simp only [List.cons_append, List.nil_append, List.append_nil]
      refine rr ?_
      intro b1 _
      refine rr ?_
      refine cl (hre) ?_
      intro _ _
      try simp only [List.cons_append, List.nil_append, List.append_nil]
      refine rr ?_
      intro b2 _
      refine rr ?_
      refine cl (htx) ?_
      intro _ _
      try simp only [List.cons_append, List.nil_append, List.append_nil]
      refine rr ?_
      refine cl (haw) ?_
      intro _ _
      try simp only [List.cons_append, List.nil_append, List.append_nil]
      refine rr ?_
      exact en () trivial
end
end Go.Proofs.YtkajfjmplaobbaaDoor
namespace Go.Proofs.YtkajfjmplaobbaaDoor
open Go Go.Sx Go.Sx.Chunk
set_option linter.unusedVariables false
set_option linter.unusedSimpArgs false

theorem sz_app (a b : ByteArray) : (a ++ b).size = a.size + b.size := ByteArray.size_append
theorem ba_ext {a b : ByteArray} (h : a.data.toList = b.data.toList) : a = b := ByteArray.ext (Array.toList_inj.1 h)
theorem tl_app (a b : ByteArray) : (a ++ b).data.toList = a.data.toList ++ b.data.toList := by rw [ByteArray.data_append]; simp
section
variable (m : Int) (ev ev2 : Value) (hev : IfV ev) (hev2 : IfV ev2)
include hev hev2
set_option maxHeartbeats 2000000 in
theorem lists_law (a : Option Addr) (c : Nat) (l : List In) : FnC (α := Unit) Tryd.prog 5 [.slice a l.length c] [] (rng a (insC l) :: vaB m ev ev2) (fun _ => .bool true) (fun _ => []) (fun _ => True) := by
  have haw := awakeC m ev ev2 hev hev2
  unfold vaB at haw ⊢
  by_cases hs : 100 < l.length
  · skip
    refine fn_intro Tryd.func5 Tryd.ntmps5 rfl rfl rfl (fun w0 => ?_)
    try simp only [List.cons_append, List.nil_append, List.append_nil]
    refine rr ?_
    refine cl (haw) ?_
    intro _ _
    try simp only [List.cons_append, List.nil_append, List.append_nil]
    refine rr ?_
    exact en () trivial
  · have hlc := listC a c l (by omega)
    refine fn_intro Tryd.func5 Tryd.ntmps5 rfl rfl rfl (fun w0 => ?_)
    try simp only [List.cons_append, List.nil_append, List.append_nil]
    refine rr ?_
    refine lo [0, 11, 12] (fun x : Nat × ByteArray => [(3, .string x.2), (13, .int .i64 (x.1 : Int))]) (fun x => []) (fun x => x.1 ≤ l.length ∧ x.2.size ≤ 40 * x.1 ∧ listF 0 l = x.2.data.toList ++ listF x.1 (l.drop x.1)) (fun x => l.length - x.1) (0, ⟨#[]⟩) ⟨Nat.zero_le _, Nat.zero_le _, rfl⟩ ?_
    rintro ⟨k, w⟩ ⟨hk, hw, hspec⟩ K1 hK1
    dsimp only at hk hw hspec ⊢
    by_cases hlt : k < l.length
    · obtain ⟨i, he⟩ := some_at hlt
      have hall : ((insC l).drop ((k : Int).toNat * 5)).take 5 = [.int .i64 i.op, .int .i64 i.a, .int .i64 i.b, .int .i64 i.c, .int .i64 i.imm] := insC_all he _ (by omega)
      have hlen := insC_len l
      have hit := digC (k : Int) (by omega) (by omega)
      have hil := itoa_len (k : Int) (by omega) (by omega)
      have htl := text_le i
      rw [listF_step he] at hspec
      have hs1 : (⟨(Lib.itoa (k : Int)).toArray⟩ : ByteArray).size = (Lib.itoa (k : Int)).length := bt_size _
      have hs2 : (⟨(textF i).toArray⟩ : ByteArray).size = (textF i).length := bt_size _
      have hrt := right02C i
      have hsr : (⟨(Lib.itoa (k : Int)).toArray⟩ ++ ⟨#[58, 32]⟩ ++ ⟨(textF i).toArray⟩ ++ ⟨#[10]⟩ : ByteArray) = ⟨(rowF k i).toArray⟩ := by
        rw [show (⟨#[58, 32]⟩ : ByteArray) = ⟨[58, 32].toArray⟩ from rfl, show (⟨#[10]⟩ : ByteArray) = ⟨[10].toArray⟩ from rfl, bt_app, bt_app, bt_app]
        rfl
      have hrl : (rowF k i).length ≤ 40 := by
        unfold rowF
        simp only [List.length_append, List.length_cons, List.length_nil]
        omega
      have hsz : (⟨(Lib.itoa (k : Int)).toArray⟩ ++ ⟨#[58, 32]⟩ ++ ⟨(textF i).toArray⟩ ++ ⟨#[10]⟩ : ByteArray).size = (rowF k i).length := by rw [hsr]; exact bt_size _
      cases hg : goodI i with
      | false =>
        have ht0 := text_ne.2 hg
        rw [ht0, show (⟨([] : List UInt8).toArray⟩ : ByteArray) = ⟨#[]⟩ from rfl] at hsr hsz
        rw [hg] at hrt
        unfold inG at hrt
        have hsz2 := hsz
        rw [sz_app, sz_app, sz_app] at hsz2
        refine rr ?_
        intro b5 _
        refine rr ?_
        refine cl (hrt) ?_
        intro _ _
        try simp only [List.cons_append, List.nil_append, List.append_nil]
        refine rr ?_
        refine cl (hit) ?_
        intro _ _
        try simp only [List.cons_append, List.nil_append, List.append_nil]
        refine rr ?_
        exact ro hK1 (k + 1, w ++ (⟨(Lib.itoa (k : Int)).toArray⟩ ++ ⟨#[58, 32]⟩ ++ ⟨#[]⟩ ++ ⟨#[10]⟩)) ⟨by dsimp only; omega, by dsimp only; rw [sz_app, hsz]; omega, by dsimp only; rw [tl_app, hsr, hspec, List.append_assoc]⟩
      | true =>
        have href := refTextC i hg
        rw [hg] at hrt
        unfold inG at hrt href
        have hsz2 := hsz
        rw [sz_app, sz_app, sz_app] at hsz2
        refine rr ?_
        intro b5 _
        refine rr ?_
        refine cl (hrt) ?_
        intro _ _
        try simp only [List.cons_append, List.nil_append, List.append_nil]
        refine rr ?_
        refine cl (href) ?_
        intro _ _
        try simp only [List.cons_append, List.nil_append, List.append_nil]
        refine rr ?_
        refine cl (hit) ?_
        intro _ _
        try simp only [List.cons_append, List.nil_append, List.append_nil]
        refine rr ?_
        exact ro hK1 (k + 1, w ++ (⟨(Lib.itoa (k : Int)).toArray⟩ ++ ⟨#[58, 32]⟩ ++ ⟨(textF i).toArray⟩ ++ ⟨#[10]⟩)) ⟨by dsimp only; omega, by dsimp only; rw [sz_app, hsz]; omega, by dsimp only; rw [tl_app, hsr, hspec, List.append_assoc]⟩
    · obtain rfl : k = l.length := by omega
      rw [List.drop_length] at hspec
      have hw2 : (⟨(listF 0 l).toArray⟩ : ByteArray) = w := ba_ext (by rw [hspec]; simp [listF])
      rw [hw2] at hlc
      refine rr ?_
      refine cl (hlc) ?_
      intro _ _
      try simp only [List.cons_append, List.nil_append, List.append_nil]
      refine rr ?_
      refine cl (haw) ?_
      intro _ _
      try simp only [List.cons_append, List.nil_append, List.append_nil]
      refine rr ?_
      exact en () trivial
set_option maxHeartbeats 2000000 in
theorem plain_law (i : In) : FnC (α := Unit) Tryd.prog 6 [inG i] [] (vaB m ev ev2) (fun _ => .bool true) (fun _ => []) (fun _ => True) := by
  have haw := awakeC m ev ev2 hev hev2
  have htx := textC i
  unfold vaB at haw ⊢
  cases hg : goodI i with
  | false =>
    rw [text_ne.2 hg] at htx
    unfold inG at htx ⊢
    refine fn_intro Tryd.func6 Tryd.ntmps6 rfl rfl rfl (fun w0 => ?_)
    try simp only [List.cons_append, List.nil_append, List.append_nil]
    refine rr ?_
    intro b1 _
    refine rr ?_
    refine cl (htx) ?_
    intro _ _
    try simp only [List.cons_append, List.nil_append, List.append_nil]
    refine rr ?_
    refine cl (haw) ?_
    intro _ _
    try simp only [List.cons_append, List.nil_append, List.append_nil]
    refine rr ?_
    exact en () trivial
  | true =>
    obtain ⟨hpl, hct⟩ := text_plain hg
    have hsh := text_short hg
    obtain ⟨c0, t0, hhd, hc0⟩ := text_head hg
    unfold inG at htx ⊢
    clear hg
    generalize textF i = tx at *
    have htl : (⟨tx.toArray⟩ : ByteArray).size = tx.length := bt_size tx
    have h0 : (⟨tx.toArray⟩ : ByteArray)[(0 : Int).toNat]? = some c0 := bt_at (by rw [hhd]; rfl)
    have hne : decide ((⟨tx.toArray⟩ : ByteArray) = ⟨#[]⟩) = false := by
      rw [decide_eq_false_iff_not]
      intro h
      have := congrArg (fun b : ByteArray => b.data.toList) h
      rw [hhd] at this
      simp at this
    refine fn_intro Tryd.func6 Tryd.ntmps6 rfl rfl rfl (fun w0 => ?_)
    try simp only [List.cons_append, List.nil_append, List.append_nil]
    refine rr ?_
    intro b1 _
    refine rr ?_
    refine cl (htx) ?_
    intro _ _
    try simp only [List.cons_append, List.nil_append, List.append_nil]
    refine rr ?_
    rw [htl]
    refine lo [3, 13] (fun x : Nat => [(4, .int .i64 (((tx.take x).count 32 : Nat) : Int)), (14, .int .i64 (x : Int))]) (fun x => []) (fun x => x ≤ tx.length) (fun x => tx.length - x) 0 (Nat.zero_le _) ?_
    intro k hk K1 hK1
    by_cases hlt : k < tx.length
    · obtain ⟨c, he⟩ := some_at hlt
      have hc : (⟨tx.toArray⟩ : ByteArray)[((k : Nat) : Int).toNat]? = some c := bt_at he
      have hp := (hpl c (List.mem_of_getElem? he)).1
      have hle : (tx.take k).count 32 ≤ k := Nat.le_trans List.count_le_length (by rw [List.length_take]; omega)
      have hst : (tx.take (k + 1)).count 32 = (tx.take k).count 32 + if c.toNat = 32 then 1 else 0 := by
        rw [take_snoc he, List.count_append]
        congr 1
        by_cases h : c.toNat = 32
        · rw [if_pos h, show c = 32 from UInt8.toNat_inj.1 h]; rfl
        · rw [if_neg h]
          exact count_no (fun x hx => by rw [List.mem_singleton] at hx; rw [hx]; intro e; exact h (by rw [e]; rfl))
      unfold plainB at hp
      simp only [Bool.or_eq_true, Bool.and_eq_true, decide_eq_true_eq] at hp
      rcases hp with (((hp | hp) | hp) | hp) | hp
      · rw [if_pos hp] at hst
        refine rr ?_
        exact ro hK1 (k + 1) (by omega) (hE := by rw [hst]; exact (by repeat (first | exact env_nil | (apply env_cons; exact rfl))))
      all_goals
        rw [if_neg (by omega)] at hst
        refine rr ?_
        exact ro hK1 (k + 1) (by omega) (hE := by rw [hst]; exact (by repeat (first | exact env_nil | (apply env_cons; exact rfl))))
    · obtain rfl : k = tx.length := by omega
      rw [List.take_length]
      refine rr ?_
      refine cl (haw) ?_
      intro _ _
      try simp only [List.cons_append, List.nil_append, List.append_nil]
      refine rr ?_
      exact en () trivial
end
end Go.Proofs.YtkajfjmplaobbaaDoor
namespace Go.Proofs.YtkajfjmplaobbaaDoor
open Go Go.Sx Go.Sx.Chunk
set_option linter.unusedVariables false
set_option linter.unusedSimpArgs false

theorem insC_app (a b : List In) : insC (a ++ b) = insC a ++ insC b := List.flatMap_append
theorem insC_one (l : List In) : ∀ u ∈ insC l, u.oneCell' = true := by
  intro u hu
  obtain ⟨i, _, hi⟩ := List.mem_flatMap.1 hu
  simp only [inV, List.mem_cons, List.not_mem_nil, or_false] at hi
  rcases hi with rfl | rfl | rfl | rfl | rfl <;> rfl
section
variable (m : Int) (ev ev2 : Value) (hev : IfV ev) (hev2 : IfV ev2)
include hev hev2
set_option maxHeartbeats 4000000 in
theorem more_law (i : In) (mo_ : ByteArray) : FnC (α := Unit) Tryd.prog 7 [inG i, .string mo_] [] (vaB m ev ev2) (fun _ => .bool true) (fun _ => []) (fun _ => True) := by
  have haw := awakeC m ev ev2 hev hev2
  have htx := textC i
  unfold vaB at haw ⊢
  by_cases h0 : mo_ = ⟨#[]⟩
  · subst h0
    unfold inG
    refine fn_intro Tryd.func7 Tryd.ntmps7 rfl rfl rfl (fun w0 => ?_)
    try simp only [List.cons_append, List.nil_append, List.append_nil]
    refine rr ?_
    intro b1 _
    refine rr ?_
    refine cl (haw) ?_
    intro _ _
    try simp only [List.cons_append, List.nil_append, List.append_nil]
    refine rr ?_
    exact en () trivial
  have hne : decide (mo_ = ⟨#[]⟩) = false := by simpa using h0
  by_cases h1 : 20 < mo_.size
  · unfold inG
    refine fn_intro Tryd.func7 Tryd.ntmps7 rfl rfl rfl (fun w0 => ?_)
    try simp only [List.cons_append, List.nil_append, List.append_nil]
    refine rr ?_
    intro b1 _
    refine rr ?_
    refine cl (haw) ?_
    intro _ _
    try simp only [List.cons_append, List.nil_append, List.append_nil]
    refine rr ?_
    exact en () trivial
  have hpos : 0 < mo_.size := by
    rcases Nat.eq_zero_or_pos mo_.size with h | h
    · exfalso
      apply h0
      apply ba_ext
      have : mo_.data.toList.length = 0 := by simpa using h
      rw [List.length_eq_zero_iff.1 this]
    · exact h
  obtain ⟨c, hc0⟩ := some_at (l := mo_.data.toList) (k := 0) (by simpa using hpos)
  have hc : mo_[(0 : Int).toNat]? = some c := sat hc0
  have hhd : mo_.data.toList.head? = some c := by rw [List.head?_eq_getElem?]; exact hc0
  by_cases hd : dgB c = true
  · have hd' : 48 ≤ c.toNat ∧ c.toNat ≤ 57 := by unfold dgB at hd; simpa using hd
    unfold inG
    refine fn_intro Tryd.func7 Tryd.ntmps7 rfl rfl rfl (fun w0 => ?_)
    try simp only [List.cons_append, List.nil_append, List.append_nil]
    refine rr ?_
    intro b1 _
    refine rr ?_
    refine cl (haw) ?_
    intro _ _
    try simp only [List.cons_append, List.nil_append, List.append_nil]
    refine rr ?_
    exact en () trivial
  have hd2 : dgB c = false := by simpa using hd
  have hd' : c.toNat < 48 ∨ (48 ≤ c.toNat ∧ 57 < c.toNat) := by unfold dgB at hd2; simp at hd2; omega
  cases hg : goodI i with
  | false =>
    rw [text_ne.2 hg] at htx
    unfold inG at htx ⊢
    rcases hd' with hd' | hd'
    all_goals
      refine fn_intro Tryd.func7 Tryd.ntmps7 rfl rfl rfl (fun w0 => ?_)
      try simp only [List.cons_append, List.nil_append, List.append_nil]
      refine rr ?_
      intro b1 _
      refine rr ?_
      refine cl (htx) ?_
      intro _ _
      try simp only [List.cons_append, List.nil_append, List.append_nil]
      refine rr ?_
      refine cl (haw) ?_
      intro _ _
      try simp only [List.cons_append, List.nil_append, List.append_nil]
      refine rr ?_
      exact en () trivial
  | true =>
    have hsh := text_short hg
    have hmore := fun j => text_more (i := i) (j := j) hg hhd hd2
    have htl : (⟨(textF i).toArray⟩ : ByteArray).size = (textF i).length := bt_size _
    have hpa := parseC (⟨(textF i).toArray⟩ ++ mo_) (by rw [sz_app, htl]; omega) m ev ev2 hev hev2
    rw [tl_app, show (⟨(textF i).toArray⟩ : ByteArray).data.toList = textF i from rfl] at hpa
    have hup := parseC (⟨#[78]⟩ ++ ⟨(textF i).toArray⟩) (by rw [sz_app, htl]; show 1 + _ ≤ _; omega) m ev ev2 hev hev2
    rw [tl_app, show (⟨#[78]⟩ : ByteArray).data.toList ++ (⟨(textF i).toArray⟩ : ByteArray).data.toList = 78 :: textF i from rfl, parse_upper] at hup
    have hne2 : decide ((⟨(textF i).toArray⟩ : ByteArray) = ⟨#[]⟩) = false := by
      rw [decide_eq_false_iff_not]
      intro h
      have := congrArg (fun b : ByteArray => b.data.toList) h
      have h3 : textF i = [] := this
      rw [text_ne.1 h3] at hg
      cases hg
    have hn1 : (⟨#[78]⟩ : ByteArray).size = 1 := rfl
    clear hg
    unfold parseV inG at hup
    dsimp only at hup
    cases hp : parseF (textF i ++ mo_.data.toList) with
    | none =>
      rw [hp] at hpa
      unfold parseV inG at hpa
      dsimp only at hpa
      unfold inG at htx ⊢
      clear hmore hp
      rcases hd' with hd' | hd'
      all_goals
        refine fn_intro Tryd.func7 Tryd.ntmps7 rfl rfl rfl (fun w0 => ?_)
        try simp only [List.cons_append, List.nil_append, List.append_nil]
        refine rr ?_
        intro b1 _
        refine rr ?_
        refine cl (htx) ?_
        intro _ _
        try simp only [List.cons_append, List.nil_append, List.append_nil]
        refine rr ?_
        refine cl (htx) ?_
        intro _ _
        try simp only [List.cons_append, List.nil_append, List.append_nil]
        refine rr ?_
        refine cl (hpa) ?_
        intro _ _
        try simp only [List.cons_append, List.nil_append, List.append_nil]
        refine rr ?_
        intro b2 _
        refine rr ?_
        refine cl (htx) ?_
        intro _ _
        try simp only [List.cons_append, List.nil_append, List.append_nil]
        refine rr ?_
        refine cl (hup) ?_
        intro _ _
        try simp only [List.cons_append, List.nil_append, List.append_nil]
        refine rr ?_
        intro b3 _
        refine rr ?_
        refine cl (haw) ?_
        intro _ _
        try simp only [List.cons_append, List.nil_append, List.append_nil]
        refine rr ?_
        exact en () trivial
    | some j =>
      have hj := hmore j hp
      rw [hp] at hpa
      unfold parseV at hpa
      dsimp only at hpa
      unfold inG at htx hpa ⊢
      clear hmore hp
      have hj' : i.op = 0 ∨ (¬ i.op = 0 ∧ j.op ≠ i.op) := by omega
      clear hj
      rcases hd' with hd' | hd' <;> rcases hj' with hj | hj
      all_goals
        refine fn_intro Tryd.func7 Tryd.ntmps7 rfl rfl rfl (fun w0 => ?_)
        try simp only [List.cons_append, List.nil_append, List.append_nil]
        refine rr ?_
        intro b1 _
        refine rr ?_
        refine cl (htx) ?_
        intro _ _
        try simp only [List.cons_append, List.nil_append, List.append_nil]
        refine rr ?_
        refine cl (htx) ?_
        intro _ _
        try simp only [List.cons_append, List.nil_append, List.append_nil]
        refine rr ?_
        refine cl (hpa) ?_
        intro _ _
        try simp only [List.cons_append, List.nil_append, List.append_nil]
        refine rr ?_
        intro b2 _
        refine rr ?_
        refine cl (htx) ?_
        intro _ _
        try simp only [List.cons_append, List.nil_append, List.append_nil]
        refine rr ?_
        refine cl (hup) ?_
        intro _ _
        try simp only [List.cons_append, List.nil_append, List.append_nil]
        refine rr ?_
        intro b3 _
        refine rr ?_
        refine cl (haw) ?_
        intro _ _
        try simp only [List.cons_append, List.nil_append, List.append_nil]
        refine rr ?_
        exact en () trivial
set_option maxHeartbeats 4000000 in
theorem rows_law (aa : Option Addr) (ac : Nat) (a : List In) (ba : Option Addr) (bc : Nat) (b : List In) : FnC (α := Unit) Tryd.prog 8 [.slice aa a.length ac, .slice ba b.length bc] [] (rng aa (insC a) :: rng ba (insC b) :: vaB m ev ev2) (fun _ => .bool true) (fun _ => []) (fun _ => True) := by
  have haw := awakeC m ev ev2 hev hev2
  unfold vaB at haw ⊢
  by_cases h1 : 100 < a.length
  · skip
    refine fn_intro Tryd.func8 Tryd.ntmps8 rfl rfl rfl (fun w0 => ?_)
    try simp only [List.cons_append, List.nil_append, List.append_nil]
    refine rr ?_
    refine cl (haw) ?_
    intro _ _
    try simp only [List.cons_append, List.nil_append, List.append_nil]
    refine rr ?_
    exact en () trivial
  by_cases h2 : 100 < b.length
  · skip
    refine fn_intro Tryd.func8 Tryd.ntmps8 rfl rfl rfl (fun w0 => ?_)
    try simp only [List.cons_append, List.nil_append, List.append_nil]
    refine rr ?_
    refine cl (haw) ?_
    intro _ _
    try simp only [List.cons_append, List.nil_append, List.append_nil]
    refine rr ?_
    exact en () trivial
  have hla := listC aa ac a (by omega)
  have hal := insC_len a
  have hbl := insC_len b
  have ha1 := insC_one a
  have hb1 := insC_one b
  refine fn_intro Tryd.func8 Tryd.ntmps8 rfl rfl rfl (fun w0 => ?_)
  try simp only [List.cons_append, List.nil_append, List.append_nil]
  refine rr ?_
  refine cl (hla) ?_
  intro _ _
  try simp only [List.cons_append, List.nil_append, List.append_nil]
  refine rr ?_
  intro b20 _
  refine rr ?_
  rintro ⟨za, zc⟩ zh
  refine rr ?_
  rintro ⟨ya, yc⟩ yh
  have hlb := listC ya yc (a ++ b) (by rw [List.length_append]; omega)
  rw [insC_app, List.length_append, ← Nat.zero_add (a.length + b.length), ← Nat.add_assoc] at hlb
  rw [List.nil_append]
  refine rr ?_
  refine cl (hlb) ?_
  intro _ _
  try simp only [List.cons_append, List.nil_append, List.append_nil]
  refine rr ?_
  have hln := list_app a b 0
  have h10 := list_10 (a ++ b) 0
  rw [List.length_append] at h10
  have hlsz : (⟨(listF 0 (a ++ b)).toArray⟩ : ByteArray).size = (listF 0 (a ++ b)).length := bt_size _
  have hlsz2 : (⟨(listF 0 a).toArray⟩ : ByteArray).size = (listF 0 a).length := bt_size _
  have hbig := list_le (a ++ b) 0 (by rw [List.length_append]; omega)
  rw [List.length_append] at hbig
  have hlen : (listF 0 a).length ≤ (listF 0 (a ++ b)).length := by rw [hln, List.length_append]; omega
  have hcut : (⟨(listF 0 (a ++ b)).toArray⟩ : ByteArray).extract 0 (listF 0 a).length = ⟨(listF 0 a).toArray⟩ := by
    apply ba_ext
    rw [Lib.extract_data]
    show ((listF 0 (a ++ b)).drop 0).take _ = listF 0 a
    rw [hln]
    simp
  rw [hlsz]
  generalize listF 0 (a ++ b) = tx at *
  clear hla hlb
  refine lo [0, 1, 5, 6, 27] (fun x : Nat => [(7, .int .i64 (((tx.take x).count 10 : Nat) : Int)), (28, .int .i64 (x : Int))]) (fun x => []) (fun x => x ≤ tx.length) (fun x => tx.length - x) 0 (Nat.zero_le _) ?_
  intro k hk K1 hK1
  by_cases hlt : k < tx.length
  · obtain ⟨c, he⟩ := some_at hlt
    have hc : (⟨tx.toArray⟩ : ByteArray)[((k : Nat) : Int).toNat]? = some c := bt_at he
    have hle : (tx.take k).count 10 ≤ k := Nat.le_trans List.count_le_length (by rw [List.length_take]; omega)
    have hst : (tx.take (k + 1)).count 10 = (tx.take k).count 10 + if c.toNat = 10 then 1 else 0 := by
      rw [take_snoc he, List.count_append]
      congr 1
      by_cases h : c.toNat = 10
      · rw [if_pos h, show c = 10 from UInt8.toNat_inj.1 h]; rfl
      · rw [if_neg h]
        exact count_no (fun x hx => by rw [List.mem_singleton] at hx; rw [hx]; intro e; exact h (by rw [e]; rfl))
    by_cases h : c.toNat = 10
    · rw [if_pos h] at hst
      refine rr ?_
      exact ro hK1 (k + 1) (by omega) (hE := by rw [hst]; exact (by repeat (first | exact env_nil | (apply env_cons; exact rfl))))
    · rw [if_neg h] at hst
      refine rr ?_
      exact ro hK1 (k + 1) (by omega) (hE := by rw [hst]; exact (by repeat (first | exact env_nil | (apply env_cons; exact rfl))))
  · obtain rfl : k = tx.length := by omega
    rw [List.take_length, h10]
    have hcut2 : decide (((⟨tx.toArray⟩ : ByteArray).extract 0 (((⟨(listF 0 a).toArray⟩ : ByteArray).size : Nat) : Int).toNat) = ⟨(listF 0 a).toArray⟩) = true := by rw [Int.toNat_natCast, hlsz2, hcut]; simp
    refine rr ?_
    refine cl (haw) ?_
    intro _ _
    try simp only [List.cons_append, List.nil_append, List.append_nil]
    refine rr ?_
    exact en () trivial
end
end Go.Proofs.YtkajfjmplaobbaaDoor
namespace Go.Sx
open Go Chunk
set_option linter.unusedSimpArgs false
set_option linter.unusedVariables false
section
variable {H : Type} {enc : TypeId × Value → H}
/-- A row's way from its contract, where the row lays variables and the shape of the world is asked. -/
theorem handed_door {a : Assume} {C : Checked} {os : Os} {f : FuncId} {fn : Func} {s : ChangeSpec} {conds : List PathCond} {apart fresh handsOn again : Bool} {X : World → Array Value → Prop}
    (hX : ∀ (w w' : World) (args : Array Value), w.heap = w'.heap → X w args → X w' args)
    (own : ownKnob C.prog.godebug = none) (started : os.Started) (noInit : C.prog.inits.idxOf? f = none) (hfn : C.prog.funcs[f]? = some fn)
    (witness : ∃ (w : World) (tape : Tape) (i : Input), w.os = os ∧ (w.forCall tape i).Shaped C.prog ∧ i.vars = [] ∧ Input.okWide C.prog (w.forCall tape i) .any w.heap.size f i ∧
      ((s.pre enc C.prog fn conds apart (w.forCall tape i).memory i.args ∧ X (w.forCall tape i).memory i.args) ∧ sizedMet enc C.prog fn (OpenSpec.ofChange s) apart (w.forCall tape i).memory i.args) ∧ a.holds C.prog (lone (Frame.enter C.prog f i.args .normal) [] (w.forCall tape i)))
    (contract : ∀ (W : World) (base : Nat) (args : Array Value) (ds gs : List (DataW H)) (before : List MemPlace),
      (∀ (j : Nat) t v, fn.params[j]? = some t → args[j]? = some v → Value.okWide C.prog W .any base t v) →
      DataW.Whole enc C.prog fn.params.toList s.vars apart W args.toList ds gs before →
      conds.all (PathCond.test C.prog ⟨fn.params.toList, ds, s.plain.varTypes C.prog, gs⟩) = true →
      (DataW.weightsEach C.prog (fn.params.toList ++ s.plain.varTypes C.prog) (ds ++ gs)).all (· ≤ reachBytes) = true → X W args → W.ShapedOpen C.prog →
      a.holds C.prog (lone (Frame.enter C.prog f args .normal) [] W) →
      Calls C.prog f args W fun e W' => ∃ v, e = .returned v ∧ s.post enc C.prog fn apart fresh handsOn again W args v W') :
    ReturnsInHanded a C os f .any (fun w args => (s.pre enc C.prog fn conds apart w args ∧ X w args) ∧ sizedMet enc C.prog fn (OpenSpec.ofChange s) apart w args) (s.post enc C.prog fn apart fresh handsOn again) := by
  refine returnsInHanded_of_calls own started noInit witness ?_
  intro w tape i _ hsh _ hok hpre hholds
  obtain ⟨_, _, _, fn', hfn', _, _, _, _, hval⟩ := hok
  obtain rfl : fn' = fn := Option.some.inj (hfn'.symm.trans hfn)
  obtain ⟨⟨⟨ds, gs, before, hw, hc⟩, hx⟩, hz⟩ := hpre
  have hw' := DataW.Whole.of_heap (w' := w.forCall tape i) (by rfl) hw
  refine (contract (w.forCall tape i) w.heap.size i.args ds gs before hval hw' hc (hz.weights hw) (hX _ _ _ (by rfl) hx) hsh hholds).mono fun e W' ⟨v, he, hp⟩ => ?_
  subst he
  exact ChangeSpec.post_blind hp
end
/-- A variable of one whole number. -/
theorem int_of_shape {P : Program} {w : World} {g : Nat} {t : TypeId} {zero : Array Value} {k : IntKind} (h : w.ShapedOpen P) (hg : g < P.globals.size)
    (h0 : ((begin P (fun _ _ => 0) default).world.heap[g]?).bind Obj.row? = some (zero, t)) (hz : zero.size = 1)
    (hb : P.buildable t = true) (hc : P.cellTypes P.depth t = some [t]) (hu : P.underlying t = some (.int k)) : ∃ n, w.cell? ⟨g, 0, none⟩ = some (.int k n) := by
  obtain ⟨cs, hh, hs, hr⟩ := h.1 g zero t hg h0
  obtain ⟨ts, hts, _, hall⟩ := hr hb
  rw [hc] at hts
  cases hts
  have h1 : 0 < cs.size := by omega
  obtain ⟨u, hu', hok⟩ := hall 0 cs[0] (by simp [h1])
  have e : u = t := by simpa using hu'.symm
  subst e
  have hcell : w.cell? ⟨g, 0, none⟩ = some cs[0] := by simp [World.cell?, hh, h1]
  rw [hcell]
  unfold Cell.ok at hok
  rw [hu] at hok
  cases hv : cs[0] <;> rw [hv] at hok <;> first | (simp at hok; done) | skip
  rename_i k' n'
  simp only [] at hok
  refine ⟨n', ?_⟩
  have : k' = k := by simp_all
  rw [this]
theorem cell_lt {w : World} {a : Addr} {v : Value} (h : w.cell? a = some v) : a.block < w.heap.size := by
  unfold World.cell? at h
  split at h
  · rename_i hb; exact (Array.getElem?_eq_some_iff.1 hb).1
  · cases h
/-- One cell of a variable. -/
theorem seen_cell {w : World} {g : Nat} {v : Value} (h : w.cell? ⟨g, 0, none⟩ = some v) : SeenC w (rng (some ⟨g, 0, none⟩) [v]) :=
  ⟨rfl, fun j u hj => by
    cases j with
    | zero =>
      simp only [List.getElem?_cons_zero, Option.some.injEq] at hj
      subst hj
      exact ⟨_, rfl, by rw [addr_add, Nat.zero_add]; exact h⟩
    | succ j => simp at hj, fun k hk => by
    obtain ⟨_, a, ha, rfl⟩ := hk
    cases ha
    exact cell_lt h⟩
/-- A variable's cells, by its name. -/
theorem var_cells {P : Program} {w : World} {n : String} {g : Nat} {cs : Array Value} (hg : P.globalNamed n = some g) (h : w.var? P n = some cs) : ∃ t z, w.heap[g]? = some (.cells cs t z) := by
  unfold World.var? at h
  rw [hg] at h
  simp only [Option.bind_some] at h
  split at h
  · rename_i c t z hc
    simp only [Option.some.injEq] at h
    subst h
    exact ⟨_, _, hc⟩
  · cases h
end Go.Sx
namespace Go.Sx
open Go Chunk
open Go.ChangeShapes Go.WideShapes Go.RowKit
set_option linter.unusedSimpArgs false
set_option linter.unusedVariables false
section
variable {H : Type} {enc : TypeId × Value → H} {P : Program} {w : World} {base b0 : Nat} {spare : Nat → Bool} {held : Bool} {r : Reach}
/-- None of it weighs too much. -/
def Light (P : Program) (t : TypeId) (d : DataW H) : Prop := ∀ n ∈ d.weights P t, n ≤ reachBytes
def DecW (enc : TypeId × Value → H) (P : Program) (w : World) (base : Nat) (spare : Nat → Bool) (held : Bool) (t : TypeId) {α : Type} (cells : α → List Value) (ok : α → Prop) (seen : α → List Chunk) : Prop :=
  ∀ (fuel : Nat) (cs : List Value) (x : DataW H × List MemPlace), DataW.trod enc P w base spare held fuel t cs = some x → Light P t x.1 → ∃ a : α, cs = cells a ∧ ok a ∧ Seen w (seen a)
theorem decW_of {t : TypeId} {α : Type} {cells : α → List Value} {ok : α → Prop} {seen : α → List Chunk} (h : Dec enc P w base spare held t cells ok seen) : DecW enc P w base spare held t cells ok seen := fun fuel cs x hx _ => h fuel cs x hx
theorem decW_string {t : TypeId} (ht : P.underlying t = some .string) : DecW enc P w base spare held t (α := ByteArray) (fun s => [.string s]) (fun s => s.size ≤ maxLen) (fun _ => []) := decW_of (dec_string ht)
theorem DecW.iso {t : TypeId} {α β : Type} {c1 : α → List Value} {ok1 : α → Prop} {s1 : α → List Chunk} {c2 : β → List Value} {ok2 : β → Prop} {s2 : β → List Chunk} (g : α → β) (hc : ∀ a, c1 a = c2 (g a)) (ho : ∀ a, ok1 a → ok2 (g a)) (hs : ∀ a, s1 a = s2 (g a)) (h : DecW enc P w base spare held t c1 ok1 s1) : DecW enc P w base spare held t c2 ok2 s2 := fun fuel cs x hx hl => by
  obtain ⟨a, h1, h2, h3⟩ := h fuel cs x hx hl
  exact ⟨g a, by rw [h1, hc], ho a h2, by rw [← hs]; exact h3⟩
theorem weightsAll_mem {e : TypeId} : ∀ {l : List (DataW H)} {d : DataW H}, d ∈ l → ∀ n ∈ d.weights P e, n ∈ DataW.weightsAll P e l
  | [], d, h, n, hn => by simp at h
  | y :: l, d, h, n, hn => by
    simp only [DataW.weightsAll, List.mem_append]
    rcases List.mem_cons.1 h with rfl | h
    · exact .inl hn
    · exact .inr (weightsAll_mem h n hn)
theorem weightsEach_mem {fs : List Field} : ∀ {l : List (DataW H)} {i : Nat} {f : Field} {d : DataW H}, fs[i]? = some f → l[i]? = some d → ∀ n ∈ d.weights P f.type, n ∈ DataW.weightsEach P (fs.map (·.type)) l := fun {l i f d} hf hd n hn =>
  DataW.weights_mem_each (j := i) (t := f.type) (by simp [hf]) hd n hn
/-- A slice, by its elements. -/
theorem decW_slice {t e : TypeId} {α : Type} {cells : α → List Value} {ok : α → Prop} {seen : α → List Chunk} {sz bz : Nat} (ht : P.underlying t = some (.slice e)) (hsz : P.cellsOf e = sz) (hbz : P.bytesOf e = bz) (hpos : 0 < sz) (hc : ∀ a, (cells a).length = sz) (hd : DecW enc P w base spare held e cells ok seen) :
    DecW enc P w base spare held t (fun x : Option Addr × Nat × List α => [.slice x.1 x.2.2.length x.2.1]) (fun x => (x.2.2.length ≤ x.2.1 ∧ x.2.1 ≤ maxLen ∧ x.2.2.length * bz ≤ reachBytes) ∧ ∀ a ∈ x.2.2, ok a) (fun x => rng x.1 (x.2.2.flatMap cells) :: x.2.2.flatMap seen) := fun fuel cs x h hlight => by
  have hlt := DataW.trod_lt fuel t cs x h
  rcases DataW.trod_slice ht h with ⟨rfl, _⟩ | ⟨a, len, cap, elems, rest, n, _, rfl, rfl, hb, hl, hm, hlen, hel, hsp, hns⟩
  · exact ⟨(none, 0, []), rfl, ⟨⟨Nat.le_refl _, by unfold maxLen; exact Nat.zero_le _, by simp⟩, by simp⟩, ⟨rfl, fun j v hj => by simp at hj, fun k hk => absurd rfl hk.1⟩, trivial⟩
  · have hw0 : ∀ n ∈ DataW.weights P t (.slice (elems.map (·.1)) (rest.map (·.1)) : DataW H), n ≤ reachBytes := hlight
    have hw1 : (elems.length + rest.length) * bz ≤ reachBytes := hw0 _ (by simp [DataW.weights, ht, hbz])
    have each : ∀ i, i < len → ∃ b : α, (∀ j v, (cells b)[j]? = some v → w.cell? (a.add (i * sz + j)) = some v) ∧ ok b ∧ Seen w (seen b) := by
      intro i hi
      have h1 := hel i hi
      rw [hsz, List.getElem?_eq_getElem (by omega), Option.bind_eq_some_iff] at h1
      obtain ⟨cs', hcs, hy⟩ := h1
      obtain ⟨b, rfl, hok, hseen⟩ := hd n cs' _ hy (fun n hn => hw0 n (by
        simp only [DataW.weights, ht, List.mem_cons, List.mem_append]
        exact .inr (.inl (weightsAll_mem (List.mem_map.2 ⟨elems[i], List.getElem_mem _, rfl⟩) n hn))))
      refine ⟨b, fun j v hj => ?_, hok, hseen⟩
      obtain ⟨_, h2, h3⟩ := World.cells?_some hcs
      have hj' := (List.getElem?_eq_some_iff.1 hj).1
      have := h3 j (by rw [hc] at hj'; omega)
      rw [add_add] at this
      rw [this, hj]
    have key : ∀ m, m ≤ len → ∃ l : List α, l.length = m ∧ (∀ b ∈ l, ok b ∧ Seen w (seen b)) ∧ ∀ j v, (l.flatMap cells)[j]? = some v → w.cell? (a.add j) = some v := by
      intro m
      induction m with
      | zero => exact fun _ => ⟨[], rfl, by simp, by simp⟩
      | succ m ih =>
        intro hm'
        obtain ⟨l, hl1, hl2, hl3⟩ := ih (by omega)
        obtain ⟨b, hb1, hb2, hb3⟩ := each m (by omega)
        refine ⟨l ++ [b], by simp [hl1], ?_, ?_⟩
        · intro c hc'
          rcases List.mem_append.1 hc' with hc' | hc'
          · exact hl2 c hc'
          · simp only [List.mem_singleton] at hc'
            subst hc'
            exact ⟨hb2, hb3⟩
        · intro j v hj
          rw [List.flatMap_append, List.flatMap_cons, List.flatMap_nil, List.append_nil] at hj
          have hfl := flat_len hc l
          rw [hl1] at hfl
          by_cases hjl : j < m * sz
          · rw [List.getElem?_append_left (by omega)] at hj
            exact hl3 j v hj
          · rw [List.getElem?_append_right (by omega), hfl] at hj
            have := hb1 (j - m * sz) v hj
            rwa [show m * sz + (j - m * sz) = j by omega] at this
    obtain ⟨l, hl1, hl2, hl3⟩ := key len (Nat.le_refl _)
    refine ⟨(some a, cap, l), (by show [Value.slice (some a) len cap] = [.slice (some a) l.length cap]; rw [hl1]), ⟨⟨by dsimp only; omega, hm, ?_⟩, fun b hb' => (hl2 b hb').1⟩, ⟨rfl, fun j v hj => ⟨a, rfl, hl3 j v hj⟩, fun k hk => ?_⟩, Seen.flat (fun b hb' => (hl2 b hb').2)⟩
    · dsimp only
      rw [hl1, ← hlen]
      exact Nat.le_trans (Nat.mul_le_mul_right _ (Nat.le_add_right _ _)) hw1
    · obtain ⟨hne, a', ha, rfl⟩ := hk
      cases ha
      have hfl := flat_len hc l
      have hl0 : 0 < l.length := by
        rcases Nat.eq_zero_or_pos l.length with h0 | h0
        · rw [List.length_eq_zero_iff.1 h0] at hne; simp at hne
        · exact h0
      have := hlt (.cell a.block (a.off + 0)) (by
        refine List.mem_append.2 (.inl ?_)
        unfold MemPlace.row
        refine List.mem_map.2 ⟨0, ?_, rfl⟩
        rw [List.mem_range, hsz]
        exact Nat.mul_pos (by omega) hpos)
      exact this
def DecFW (enc : TypeId × Value → H) (P : Program) (w : World) (base : Nat) (spare : Nat → Bool) (held : Bool) (fs : List Field) (o sz : Nat) {α : Type} (cells : α → List Value) (ok : α → Prop) (seen : α → List Chunk) : Prop :=
  ∀ (n : Nat) (cs : List Value), (∀ f ∈ fs, ∃ y, DataW.trod enc P w base spare held n f.type ((cs.drop f.offset).take (P.cellsOf f.type)) = some y ∧ Light P f.type y.1) → ∃ a : α, (cs.drop o).take sz = cells a ∧ ok a ∧ Seen w (seen a)
theorem decFW_nil {o : Nat} : DecFW enc P w base spare held [] o 0 (α := Unit) (fun _ => []) (fun _ => True) (fun _ => []) := fun n cs _ => ⟨(), by simp, trivial, trivial⟩
theorem decFW_cons {f : Field} {fs : List Field} {o k sz : Nat} {α β : Type} {c1 : α → List Value} {ok1 : α → Prop} {s1 : α → List Chunk} {c2 : β → List Value} {ok2 : β → Prop} {s2 : β → List Chunk} (ho : f.offset = o) (hk : P.cellsOf f.type = k)
    (h1 : DecW enc P w base spare held f.type c1 ok1 s1) (h2 : DecFW enc P w base spare held fs (o + k) sz c2 ok2 s2) : DecFW enc P w base spare held (f :: fs) o (k + sz) (fun x : α × β => c1 x.1 ++ c2 x.2) (fun x => ok1 x.1 ∧ ok2 x.2) (fun x => s1 x.1 ++ s2 x.2) := fun n cs h => by
  obtain ⟨y, hy, hyl⟩ := h f (by simp)
  rw [ho, hk] at hy
  obtain ⟨a, ha, hoa, hsa⟩ := h1 n _ _ hy hyl
  obtain ⟨b, hb, hob, hsb⟩ := h2 n cs (fun g hg => h g (by simp [hg]))
  refine ⟨(a, b), ?_, ⟨hoa, hob⟩, hsa.append hsb⟩
  show _ = c1 a ++ c2 b
  rw [← ha, ← hb, List.take_add, List.drop_drop]
theorem decW_struct {t : TypeId} {fs : Array Field} {sz : Nat} {α : Type} {cells : α → List Value} {ok : α → Prop} {seen : α → List Chunk} (ht : P.underlying t = some (.struct fs)) (hsz : P.cellsOf t = sz) (h : DecFW enc P w base spare held fs.toList 0 sz cells ok seen) : DecW enc P w base spare held t cells ok seen := fun fuel cs x hx hlight => by
  obtain ⟨xs, n, _, rfl, hl, hlen, hf⟩ := DataW.trod_struct ht hx
  have hw0 : ∀ n ∈ DataW.weights P t (.agg (xs.map (·.1)) : DataW H), n ≤ reachBytes := hlight
  obtain ⟨a, ha, h1, h2⟩ := h n cs (fun f hf' => by
    obtain ⟨i, hi⟩ := List.mem_iff_getElem?.1 hf'
    have hi' : fs[i]? = some f := by simpa using hi
    have := hf i f hi'
    have hlt : i < xs.length := by rw [hlen]; exact (Array.getElem?_eq_some_iff.1 hi').1
    refine ⟨xs[i], by rw [this]; simp [hlt], fun n hn => hw0 n ?_⟩
    simp only [DataW.weights, ht]
    exact weightsEach_mem (i := i) hi (by simp [hlt]) n hn)
  refine ⟨a, ?_, h1, h2⟩
  rw [List.drop_zero, List.take_of_length_le (by omega)] at ha
  exact ha
/-- The weights of the j-th argument. -/
theorem light_arg {ts : List TypeId} {ds : List (DataW H)} (h : (DataW.weightsEach P ts ds).all (· ≤ reachBytes) = true) {j : Nat} {t : TypeId} {d : DataW H} (ht : ts[j]? = some t) (hd : ds[j]? = some d) : Light P t d := fun n hn => by
  have := List.all_eq_true.1 h n (DataW.weights_mem_each ht hd n hn)
  simpa using this
/-- An argument that is a slice. -/
theorem arg_sliceW {t e : TypeId} {α : Type} {cells : α → List Value} {ok : α → Prop} {seen : α → List Chunk} {sz bz : Nat} {v : Value} {d : DataW H} {ps : List MemPlace} (ht : P.underlying t = some (.slice e)) (hsz : P.cellsOf e = sz) (hbz : P.bytesOf e = bz) (hpos : 0 < sz) (hc : ∀ a, (cells a).length = sz) (hd : DecW enc P w base spare held e cells ok seen)
    (hv : Value.okWide P w r b0 t v) (h : DataW.Trod enc P w base spare held t v d ps) (hl : Light P t d) :
    ∃ (ao : Option Addr) (cap : Nat) (l : List α), v = .slice ao l.length cap ∧ l.length ≤ cap ∧ cap ≤ maxLen ∧ l.length * bz ≤ reachBytes ∧ (∀ a ∈ l, ok a) ∧ Seen w (rng ao (l.flatMap cells) :: l.flatMap seen) := by
  obtain ⟨a0, len, cap, rfl⟩ := okWide_slice ht hv
  obtain ⟨fuel, hf⟩ := h
  obtain ⟨⟨ao, cap', l⟩, hcs, ⟨⟨h1, h2, h3⟩, h4⟩, h5⟩ := decW_slice ht hsz hbz hpos hc hd fuel _ _ hf hl
  simp [Value.cells] at hcs
  obtain ⟨rfl, rfl, rfl⟩ := hcs
  exact ⟨a0, cap, l, rfl, h1, h2, h3, h4, h5⟩
/-- An argument that is a struct. -/
theorem arg_structW {t : TypeId} {fs : Array Field} {α : Type} {cells : α → List Value} {ok : α → Prop} {seen : α → List Chunk} {v : Value} {d : DataW H} {ps : List MemPlace} (ht : P.underlying t = some (.struct fs)) (hd : DecW enc P w base spare held t cells ok seen)
    (hv : Value.okWide P w r b0 t v) (h : DataW.Trod enc P w base spare held t v d ps) (hl : Light P t d) :
    ∃ a : α, v = .agg (cells a).toArray ∧ ok a ∧ Seen w (seen a) := by
  obtain ⟨cs, rfl, _⟩ := okWide_struct ht hv
  obtain ⟨fuel, hf⟩ := h
  obtain ⟨a, hcs, h1, h2⟩ := hd fuel _ _ hf hl
  refine ⟨a, ?_, h1, h2⟩
  rw [← hcs]
  simp [Value.cells]
theorem seen_see {cs : List Chunk} (h : Seen w cs) : Seen w [seeL cs] :=
  ⟨⟨rfl, fun c hc => (h.mem c hc).2.1, fun k ⟨c, hc, hk⟩ => (h.mem c hc).2.2 k hk⟩, trivial⟩
end
end Go.Sx
namespace Go.Proofs.YtkajfjmplaobbaaDoor
open Go Go.Sx Go.Sx.Chunk
set_option linter.unusedVariables false
set_option linter.unusedSimpArgs false
set_option maxRecDepth 100000
def laidL : List (String × DataW Unit) := [("math/bits.deBruijn32tab", Rows.laid_math_bits_deBruijn32tab), ("math/bits.deBruijn64tab", Rows.laid_math_bits_deBruijn64tab), ("internal/strconv.uint64pow10", Rows.laid_internal_strconv_uint64pow10), ("unicode/utf8.acceptRanges", Rows.laid_unicode_utf8_acceptRanges), ("strconv.ErrRange", Rows.laid_strconv_ErrRange), ("strconv.ErrSyntax", Rows.laid_strconv_ErrSyntax), ("unicode.White_Space", Rows.laid_unicode_White_Space), ("strings.asciiSpace", Rows.laid_strings_asciiSpace), ("unicode/utf8.first", Rows.laid_unicode_utf8_first)]
theorem pow_eq : (Rows.laid_internal_strconv_uint64pow10 : DataW Unit) = Lib.tabData .u64 Lib.pow10Tab := by kernel_rfl
theorem spc_eq : (Rows.laid_strings_asciiSpace : DataW Unit) = Lib.tabData .u8 Lib.asciiSpaceTab := by kernel_rfl
theorem glb_seen {w : World} {n : String} {g : Nat} {k : IntKind} {zs : List Int} (hg : Tryd.prog.globalNamed n = some g) (h : Lib.TabIs Tryd.prog w n k zs) : SeenC w (glb g (zs.map fun z => Value.int k z)) := by
  obtain ⟨t, z, hb⟩ := var_cells hg h
  exact ⟨rfl, ⟨t, z, hb⟩, fun j hj => by
    have : j = g := hj
    rw [this]
    exact (Array.getElem?_eq_some_iff.1 hb).1⟩
theorem laid_plain {W : World} (h : laidMetH Tryd.prog laidL W) : laidMet Tryd.prog laidL W := by
  rw [MakeChecks.laidMetH_plain _ _ _ (by kernel_rfl)] at h
  exact h
theorem esStar : "*" ++ "errors.errorString" = "*errors.errorString" := by decide
theorem esRow (u : TypeId) (h : Tryd.prog.typeName? 3 u = some "*errors.errorString") : u = 128 :=
  typeName_ptr_named (nm := "errors.errorString") (by rw [esStar]; kernel_rfl) (by kernel_rfl) (by decide) u (by rw [esStar]; exact h)
theorem cellsES : Tryd.prog.cellsOf 130 = 1 := by kernel_rfl
theorem cellsSt : Tryd.prog.cellsOf 9 = 1 := by kernel_rfl
theorem va_seen {W : World} (hL : laidMetH Tryd.prog laidL W) (hsh : W.ShapedOpen Tryd.prog) : ∃ m ev ev2, IfV ev ∧ IfV ev2 ∧ Seen W (vaB m ev ev2) := by
  have h0 := laid_plain hL
  have h2 := laidMet.tail (laidMet.tail h0)
  have h4 := laidMet.tail (laidMet.tail h2)
  have h5 := laidMet.tail h4
  have h7 := laidMet.tail (laidMet.tail h5)
  rw [pow_eq] at h2
  rw [spc_eq] at h7
  have t5 := Lib.tabIs_of_head (g := 5) (t := 121) (e := 92) (n := 20) (by kernel_rfl) (by kernel_rfl) (by kernel_rfl) (by kernel_rfl) (by kernel_rfl) (by kernel_rfl) h2
  have t0 := Lib.tabIs_of_head (g := 0) (t := 70) (e := 5) (n := 256) (by kernel_rfl) (by kernel_rfl) (by kernel_rfl) (by kernel_rfl) (by kernel_rfl) (by kernel_rfl) h7
  obtain ⟨m, hm⟩ := int_of_shape (g := 2) (t := 3) (zero := #[.int .i64 0]) (k := .i64) hsh (of_decide_eq_true (by kernel_rfl)) (by kernel_rfl) (by kernel_rfl) (by kernel_rfl) (by kernel_rfl) (by kernel_rfl)
  have g3 : Tryd.prog.globalNamed "strconv.ErrSyntax" = some 3 := by kernel_rfl
  have g4 : Tryd.prog.globalNamed "strconv.ErrRange" = some 4 := by kernel_rfl
  obtain ⟨a4, s4, hv4, _⟩ := laid_sentinel h4 g4 (by kernel_rfl) Tryd.underlying48 esRow Tryd.underlying128 Tryd.underlying130 rfl rfl Tryd.underlying9 cellsES cellsSt
  obtain ⟨a3, s3, hv3, _⟩ := laid_sentinel h5 g3 (by kernel_rfl) Tryd.underlying48 esRow Tryd.underlying128 Tryd.underlying130 rfl rfl Tryd.underlying9 cellsES cellsSt
  refine ⟨m, _, _, .inr ⟨_, _, rfl⟩, .inr ⟨_, _, rfl⟩, glb_seen (by kernel_rfl) t0, glb_seen (by kernel_rfl) t5, seen_cell hm, seen_cell (by have h := World.var?_cell g3 hv3 0; simpa using h), seen_cell (by have h := World.var?_cell g4 hv4 0; simpa using h), trivial⟩
section
open Go.ChangeShapes Go.WideShapes Go.RowKit
variable {H : Type} {enc : TypeId × Value → H} {w : World} {base : Nat} {spare : Nat → Bool} {held : Bool}
theorem decI : DecW enc Tryd.prog w base spare held 23 inV (fun a => inK .i64 a.op ∧ inK .i64 a.a ∧ inK .i64 a.b ∧ inK .i64 a.c ∧ inK .i64 a.imm) (fun _ => []) :=
  (decW_struct Tryd.underlying23 (sz := 5) (by kernel_rfl) (decFW_cons (k := 1) (sz := 4) rfl (by kernel_rfl) (decW_of (dec_int Tryd.underlying3)) (decFW_cons (k := 1) (sz := 3) rfl (by kernel_rfl) (decW_of (dec_int Tryd.underlying3)) (decFW_cons (k := 1) (sz := 2) rfl (by kernel_rfl) (decW_of (dec_int Tryd.underlying3)) (decFW_cons (k := 1) (sz := 1) rfl (by kernel_rfl) (decW_of (dec_int Tryd.underlying3)) (decFW_cons (k := 1) (sz := 0) rfl (by kernel_rfl) (decW_of (dec_int Tryd.underlying3)) decFW_nil)))))).iso
    (fun (x : Int × Int × Int × Int × Int × Unit) => (⟨x.1, x.2.1, x.2.2.1, x.2.2.2.1, x.2.2.2.2.1⟩ : In)) (fun _ => rfl) (fun _ h => ⟨h.1, h.2.1, h.2.2.1, h.2.2.2.1, h.2.2.2.2.1⟩) (fun _ => rfl)
end
end Go.Proofs.YtkajfjmplaobbaaDoor

/- Take: the walk. -/
import Derived.Test.YtgmegfmabkkaoaaPr1
namespace Go.Proofs.Ytgmegfmabkkaoaa
open Go Go.Sx Go.Sx.Chunk
set_option linter.unusedVariables false
set_option linter.unusedSimpArgs false

def codeT : Nat → RS → List In → List In × RS
  | 0, s, acc => (acc, s)
  | n + 1, s, acc => codeT n ((numS 4 s).2.1, (numS 4 s).2.2 || !decOk (numS 4 s).1) (acc ++ [if decOk (numS 4 s).1 then decF (numS 4 s).1 else inD])
def exT : Nat → RS → List Sy → List Sy × RS
  | 0, s, acc => (acc, s)
  | n + 1, s, acc => exT n (numS 4 (nameS s).2).2 (acc ++ [⟨mkB (nameS s).1, (numS 4 (nameS s).2).1⟩])
def imT : Nat → RS → List ByteArray → List ByteArray × RS
  | 0, s, acc => (acc, s)
  | n + 1, s, acc => imT n (nameS s).2 (acc ++ [mkB (nameS s).1])
def paT : Nat → RS → List Pa → List Pa × RS
  | 0, s, acc => (acc, s)
  | n + 1, s, acc => paT n (numS 1 (numS 1 (numS 4 s).2).2).2 (acc ++ [⟨(numS 4 s).1, (numS 1 (numS 4 s).2).1, (numS 1 (numS 1 (numS 4 s).2).2).1⟩])
def headS (l : List UInt8) : RS := ((cutS 2 (l, false)).2.1, !decide (mkB (cutS 2 (l, false)).1 = mkB dsF))
/-- The object, and what is left. -/
def takeS (l : List UInt8) : Ob × RS :=
  let a := nameS (headS l)
  let n := numS 4 a.2
  let m := mostS n.1 4 n.2
  let c := codeT m.1.toNat m.2 []
  let d := numS 4 c.2
  let ne := numS 1 d.2
  let e := exT ne.1.toNat ne.2 []
  let ni := numS 1 e.2
  let i := imT ni.1.toNat ni.2 []
  let np := numS 4 i.2
  let mp := mostS np.1 6 np.2
  let p := paT mp.1.toNat mp.2 []
  (⟨mkB a.1, none, 0, c.1, d.1, none, 0, e.1, none, 0, i.1, none, 0, p.1⟩, p.2)
def emptyO : Ob := ⟨mkB [], none, 0, [], 0, none, 0, [], none, 0, [], none, 0, []⟩
def takeOk (l : List UInt8) : Bool := !(takeS l).2.2 && (decide ((takeS l).2.1 = []) && goodO (takeS l).1)
def takeF (l : List UInt8) : Ob := if takeOk l then (takeS l).1 else emptyO
def canon (o : Ob) : Ob := ⟨o.name, none, 0, o.code, o.data, none, 0, o.exps, none, 0, o.imps, none, 0, o.pats⟩
def obR (o : Ob) : List Chunk := [row o.ca o.cc 63 5 o.code.length (insC o.code), row o.ea o.ec 48 2 o.exps.length (syC o.exps), row o.ia o.ic 9 1 o.imps.length (strC o.imps), row o.pa o.pc 54 3 o.pats.length (paC o.pats)]
def obZ : List Value := [.string (mkB []), .slice none 0 0, .int .i64 0, .slice none 0 0, .slice none 0 0, .slice none 0 0]
theorem mostS_len (n b : Int) (s : RS) : (mostS n b s).2.1.length ≤ s.1.length := by unfold mostS; split <;> exact Nat.le_refl _
theorem mostS_range {n b : Int} {s : RS} (hn : 0 ≤ n) (hb : 1 ≤ b) : 0 ≤ (mostS n b s).1 ∧ (mostS n b s).1 ≤ s.1.length := by
  unfold mostS
  split
  · exact ⟨Int.le_refl _, by show (0 : Int) ≤ _; omega⟩
  · rename_i h
    refine ⟨hn, ?_⟩
    have : n * 1 ≤ n * b := Int.mul_le_mul_of_nonneg_left hb hn
    show n ≤ _
    omega
theorem insC_snoc (l : List In) (e : In) : insC l ++ [Value.int .i64 e.op, .int .i64 e.a, .int .i64 e.b, .int .i64 e.c, .int .i64 e.imm] = insC (l ++ [e]) := by simp [insC, inV]
theorem syC_snoc (l : List Sy) (e : Sy) : syC l ++ [Value.string e.name, .int .i64 e.pl] = syC (l ++ [e]) := by simp [syC, syV]
theorem paC_snoc (l : List Pa) (e : Pa) : paC l ++ [Value.int .i64 e.pl, .int .i64 e.kind, .int .i64 e.n] = paC (l ++ [e]) := by simp [paC, paV]
theorem strC_snoc (l : List ByteArray) (e : ByteArray) : strC l ++ [Value.string e] = strC (l ++ [e]) := by simp [strC]
theorem takeS_eq {l : List UInt8} {nm : List UInt8} {s2 s3 s4 s5 s6 s7 s8 s9 s10 s11 s12 s13 : RS} {nc m d ne ni np mp : Int} {code : List In} {exps : List Sy} {imps : List ByteArray} {pats : List Pa}
    (h1 : (nm, s2) = nameS (headS l)) (h2 : (nc, s3) = numS 4 s2) (h3 : (m, s4) = mostS nc 4 s3) (h4 : (code, s5) = codeT m.toNat s4 []) (h5 : (d, s6) = numS 4 s5) (h6 : (ne, s7) = numS 1 s6) (h7 : (exps, s8) = exT ne.toNat s7 []) (h8 : (ni, s9) = numS 1 s8)
    (h9 : (imps, s10) = imT ni.toNat s9 []) (h10 : (np, s11) = numS 4 s10) (h11 : (mp, s12) = mostS np 6 s11) (h12 : (pats, s13) = paT mp.toNat s12 []) : takeS l = (⟨mkB nm, none, 0, code, d, none, 0, exps, none, 0, imps, none, 0, pats⟩, s13) := by
  unfold takeS
  dsimp only
  rw [← h1]; dsimp only
  rw [← h2]; dsimp only
  rw [← h3]; dsimp only
  rw [← h4]; dsimp only
  rw [← h5]; dsimp only
  rw [← h6]; dsimp only
  rw [← h7]; dsimp only
  rw [← h8]; dsimp only
  rw [← h9]; dsimp only
  rw [← h10]; dsimp only
  rw [← h11]; dsimp only
  rw [← h12]
theorem codeT_len : ∀ (n : Nat) (s : RS) (acc : List In), (codeT n s acc).1.length = acc.length + n
  | 0, s, acc => rfl
  | n + 1, s, acc => by simp only [codeT]; rw [codeT_len n]; simp; omega
theorem nameS_in (s : RS) : (nameS s).1.length ≤ s.1.length := by
  unfold nameS
  have h1 := numS_len 1 s
  generalize (numS 1 s).2 = t at h1
  unfold cutS
  split
  · rw [List.length_take]; omega
  · show 0 ≤ _; omega
theorem some_p {α β : Type} (x : α × β) : ∃ a b, (a, b) = x := ⟨x.1, x.2, rfl⟩
set_option maxHeartbeats 8000000 in
theorem takeC (l : List UInt8) (hl : l.length ≤ 1000000) : FnC Try.prog 17 [.string (mkB l)] [] [] (fun o : Ob => .tuple #[obG o, .int .i64 (if takeOk l then 0 else 2)]) obR (fun o => canon o = takeF l) := by
  have hm : maxLen = 9223372036854775807 := rfl
  refine fn_intro Try.func17 Try.ntmps17 rfl rfl rfl (fun w0 => ?_)
  try simp only [List.cons_append, List.nil_append, List.append_nil]
  refine rr ?_
  intro b2 _
  refine rr ?_
  intro b4 _
  refine rr ?_
  intro b5 _
  refine rr ?_
  refine hv [rdC b4 (l, false), blk b5 obZ 27, blk b2 obZ 27] ?_
  refine rr ?_
  refine cl (cutC b4 (l, false) 2 (by dsimp only; omega)) ?_
  intro _ _
  simp only [List.cons_append, List.nil_append, List.append_nil]
  have g1 : (headS l).1.length ≤ l.length := (cutS_len 2 (l, false)).2
  unfold rdC
  refine rr ?_
  refine hv [rdC b4 (headS l), blk b5 obZ 27, blk b2 obZ 27] ?_
  refine rr ?_
  refine cl (nameRC b4 (headS l) (by omega)) ?_
  intro _ _
  simp only [List.cons_append, List.nil_append, List.append_nil]
  obtain ⟨nm, s2, h1⟩ := some_p (nameS (headS l))
  have g2 := nameS_len (headS l)
  rw [← h1] at g2 ⊢
  dsimp only at g2 ⊢
  refine rr ?_
  refine cl (numRC b4 s2 4 (by decide) (by omega)) ?_
  intro _ _
  simp only [List.cons_append, List.nil_append, List.append_nil]
  obtain ⟨nc, s3, h2⟩ := some_p (numS 4 s2)
  have g3 := numS_len 4 s2
  have n3 := num4 s2
  rw [← h2] at g3 n3 ⊢
  dsimp only at g3 n3 ⊢
  refine rr ?_
  refine cl (mostC b4 s3 nc 4 n3 (by omega) (by omega)) ?_
  intro _ _
  simp only [List.cons_append, List.nil_append, List.append_nil]
  obtain ⟨mi, s4, h3⟩ := some_p (mostS nc 4 s3)
  have g4 := mostS_len nc 4 s3
  have n4 := mostS_range (n := nc) (b := 4) (s := s3) n3.1 (by decide)
  rw [← h3] at g4 n4 ⊢
  dsimp only at g4 n4 ⊢
  obtain ⟨m, rfl⟩ : ∃ m : Nat, mi = (m : Int) := ⟨mi.toNat, by omega⟩
  refine rr ?_
  refine hv [rdC b4 s4, blk b5 [.string (mkB nm), .slice none 0 0, .int .i64 0, .slice none 0 0, .slice none 0 0, .slice none 0 0] 27, blk b2 obZ 27, row none 0 63 5 0 []] ?_
  refine lo [2, 4, 5, 25] (fun x : Nat × RS × List In × Option Addr × Nat => [(26, .int .i64 (x.1 : Int))])
    (fun x => [(0, rdC b4 x.2.1), (1, blk b5 [.string (mkB nm), .slice x.2.2.2.1 x.2.2.1.length x.2.2.2.2, .int .i64 0, .slice none 0 0, .slice none 0 0, .slice none 0 0] 27), (3, row x.2.2.2.1 x.2.2.2.2 63 5 x.2.2.1.length (insC x.2.2.1))])
    (fun x => x.1 ≤ m ∧ x.2.2.1.length = x.1 ∧ x.2.1.1.length ≤ l.length ∧ codeT m s4 [] = codeT (m - x.1) x.2.1 x.2.2.1) (fun x => m - x.1) (0, s4, [], none, 0) ⟨by omega, rfl, by dsimp only; omega, rfl⟩ ?_
  rintro ⟨k, s, acc, xa, xc⟩ ⟨hk, hacc, hsl, hct⟩ K1 hK1
  dsimp only at hk hacc hsl hct ⊢
  by_cases hlt : k < m
  · obtain ⟨j, hj⟩ : ∃ j, m - k = j + 1 := ⟨m - k - 1, by omega⟩
    have hj2 : m - (k + 1) = j := by omega
    rw [hj] at hct
    simp only [codeT] at hct
    refine rr ?_
    refine cl (numRC b4 s 4 (by decide) (by omega)) ?_
    intro _ _
    simp only [List.cons_append, List.nil_append, List.append_nil]
    obtain ⟨w, t1, q1⟩ := some_p (numS 4 s)
    have g5 := numS_len 4 s
    rw [← q1] at g5 hct ⊢
    dsimp only at g5 hct ⊢
    refine cl (decC w) ?_
    intro _ _
    try simp only [List.cons_append, List.nil_append, List.append_nil]
    generalize hE : (if decOk w then decF w else inD) = e at hct
    unfold inG rdC
    have e2 : acc.length + 1 = (acc ++ [e]).length := by simp
    obtain ⟨tl, tb⟩ := t1
    dsimp only at g5 hct ⊢
    have hfin : ∀ nb : Bool, (tb || !decOk w) = nb → codeT m s4 [] = codeT j (tl, nb) (acc ++ [e]) := fun nb h => by rw [hct, h]
    cases tb with
    | true =>
      refine rr ?_
      intro b6 _
      refine rr ?_
      intro b48 _
      refine rr ?_
      rintro ⟨a1, c1⟩ ⟨hc1, _⟩
      refine rr ?_
      rw [insC_snoc, e2]
      exact ro hK1 (k + 1, (tl, true), acc ++ [e], a1, c1) ⟨by omega, by simp [hacc], by dsimp only; omega, by dsimp only; rw [hj2]; exact hfin true rfl⟩
    | false =>
      cases hok : decOk w with
      | true =>
        refine rr ?_
        intro b6 _
        refine rr ?_
        intro b48 _
        refine rr ?_
        rintro ⟨a1, c1⟩ ⟨hc1, _⟩
        refine rr ?_
        rw [insC_snoc, e2]
        exact ro hK1 (k + 1, (tl, false), acc ++ [e], a1, c1) ⟨by omega, by simp [hacc], by dsimp only; omega, by dsimp only; rw [hj2]; exact hfin false (by rw [hok]; rfl)⟩
      | false =>
        refine rr ?_
        intro b6 _
        refine rr ?_
        intro b48 _
        refine rr ?_
        rintro ⟨a1, c1⟩ ⟨hc1, _⟩
        refine rr ?_
        rw [insC_snoc, e2]
        exact ro hK1 (k + 1, (tl, true), acc ++ [e], a1, c1) ⟨by omega, by simp [hacc], by dsimp only; omega, by dsimp only; rw [hj2]; exact hfin true (by rw [hok]; rfl)⟩
  obtain rfl : k = m := by omega
  rw [Nat.sub_self] at hct
  simp only [codeT] at hct
  obtain ⟨code, hcode⟩ : ∃ code, code = acc := ⟨_, rfl⟩
  obtain ⟨s5, hs5⟩ : ∃ s5, s5 = s := ⟨_, rfl⟩
  rw [← hcode] at hacc hct ⊢
  rw [← hs5] at hsl hct ⊢
  obtain ⟨ca, cc, hca, hcc⟩ : ∃ ca cc, ca = xa ∧ cc = xc := ⟨_, _, rfl, rfl⟩
  rw [← hca, ← hcc]
  clear hcode hs5 hca hcc hK1
  refine rr ?_
  refine cl (numRC b4 s5 4 (by decide) (by omega)) ?_
  intro _ _
  simp only [List.cons_append, List.nil_append, List.append_nil]
  obtain ⟨d, s6, h5⟩ := some_p (numS 4 s5)
  have g6 := numS_len 4 s5
  rw [← h5] at g6 ⊢
  dsimp only at g6 ⊢
  refine rr ?_
  refine cl (numRC b4 s6 1 (by decide) (by omega)) ?_
  intro _ _
  simp only [List.cons_append, List.nil_append, List.append_nil]
  obtain ⟨nei, s7, h6⟩ := some_p (numS 1 s6)
  have g7 := numS_len 1 s6
  have n7 := num1 s6
  rw [← h6] at g7 n7 ⊢
  dsimp only at g7 n7 ⊢
  obtain ⟨ne, rfl⟩ : ∃ n : Nat, nei = (n : Int) := ⟨nei.toNat, by omega⟩
  refine rr ?_
  refine hv [rdC b4 s7, blk b5 [.string (mkB nm), .slice ca code.length cc, .int .i64 d, .slice none 0 0, .slice none 0 0, .slice none 0 0] 27, blk b2 obZ 27, row ca cc 63 5 code.length (insC code), row none 0 48 2 0 []] ?_
  refine lo [2, 4, 5, 56] (fun x : Nat × RS × List Sy × Option Addr × Nat => [(57, .int .i64 (x.1 : Int))])
    (fun x => [(0, rdC b4 x.2.1), (1, blk b5 [.string (mkB nm), .slice ca code.length cc, .int .i64 d, .slice x.2.2.2.1 x.2.2.1.length x.2.2.2.2, .slice none 0 0, .slice none 0 0] 27), (4, row x.2.2.2.1 x.2.2.2.2 48 2 x.2.2.1.length (syC x.2.2.1))])
    (fun x => x.1 ≤ ne ∧ x.2.2.1.length = x.1 ∧ x.2.1.1.length ≤ l.length ∧ (∀ y ∈ x.2.2.1, y.name.size ≤ 1000000) ∧ exT ne s7 [] = exT (ne - x.1) x.2.1 x.2.2.1) (fun x => ne - x.1) (0, s7, [], none, 0) ⟨by omega, rfl, by dsimp only; omega, fun y hy => (by cases hy), rfl⟩ ?_
  rintro ⟨k, s, acc, xa, xc⟩ ⟨hk, hacce, hsl, hnm, hct2⟩ K1 hK1
  dsimp only at hk hacce hsl hnm hct2 ⊢
  by_cases hlt : k < ne
  · obtain ⟨j, hj⟩ : ∃ j, ne - k = j + 1 := ⟨ne - k - 1, by omega⟩
    have hj2 : ne - (k + 1) = j := by omega
    rw [hj] at hct2
    simp only [exT] at hct2
    refine rr ?_
    refine cl (nameRC b4 s (by omega)) ?_
    intro _ _
    simp only [List.cons_append, List.nil_append, List.append_nil]
    obtain ⟨x, t1, q1⟩ := some_p (nameS s)
    have g8 := nameS_len s
    have g9 := nameS_in s
    rw [← q1] at g8 g9 hct2 ⊢
    dsimp only at g8 g9 hct2 ⊢
    refine rr ?_
    refine dx [0, 1, 2, 3, 4, 5, 6, 7, 8, 9] [1] [0] ?_
    refine rr ?_
    refine cld (numRC b4 t1 4 (by decide) (by omega)) ?_
    intro _ _
    simp only [List.cons_append, List.nil_append, List.append_nil]
    obtain ⟨w, t2, q2⟩ := some_p (numS 4 t1)
    have g10 := numS_len 4 t1
    rw [← q2] at g10 hct2 ⊢
    dsimp only at g10 hct2 ⊢
    have e2 : acc.length + 1 = (acc ++ [(⟨mkB x, w⟩ : Sy)]).length := by simp
    have e3 := syC_snoc acc ⟨mkB x, w⟩
    dsimp only at e3
    refine rr ?_
    intro b67 _
    refine rr ?_
    rintro ⟨a1, c1⟩ ⟨hc1, _⟩
    refine rr ?_
    rw [e3, e2]
    exact ro hK1 (k + 1, t2, acc ++ [⟨mkB x, w⟩], a1, c1) ⟨by omega, by simp [hacce], by dsimp only; omega, fun y hy => by
      rcases List.mem_append.1 hy with hy | hy
      · exact hnm y hy
      · simp only [List.mem_singleton] at hy; subst hy; show (mkB x).size ≤ _; rw [mkB_size]; omega, by dsimp only; rw [hj2]; exact hct2⟩
  obtain rfl : k = ne := by omega
  rw [Nat.sub_self] at hct2
  simp only [exT] at hct2
  obtain ⟨exps, hexps⟩ : ∃ exps, exps = acc := ⟨_, rfl⟩
  obtain ⟨s8, hs8⟩ : ∃ s8, s8 = s := ⟨_, rfl⟩
  rw [← hexps] at hacce hct2 hnm ⊢
  rw [← hs8] at hsl hct2 ⊢
  obtain ⟨ea, ec, hea, hec⟩ : ∃ ca cc, ca = xa ∧ cc = xc := ⟨_, _, rfl, rfl⟩
  rw [← hea, ← hec]
  clear hexps hs8 hea hec hK1
  refine rr ?_
  refine cl (numRC b4 s8 1 (by decide) (by omega)) ?_
  intro _ _
  simp only [List.cons_append, List.nil_append, List.append_nil]
  obtain ⟨nii, s9, h8⟩ := some_p (numS 1 s8)
  have g9 := numS_len 1 s8
  have n9 := num1 s8
  rw [← h8] at g9 n9 ⊢
  dsimp only at g9 n9 ⊢
  obtain ⟨ni, rfl⟩ : ∃ n : Nat, nii = (n : Int) := ⟨nii.toNat, by omega⟩
  refine rr ?_
  refine hv [rdC b4 s9, blk b5 [.string (mkB nm), .slice ca code.length cc, .int .i64 d, .slice ea exps.length ec, .slice none 0 0, .slice none 0 0] 27, blk b2 obZ 27, row ca cc 63 5 code.length (insC code), row ea ec 48 2 exps.length (syC exps), row none 0 9 1 0 []] ?_
  refine lo [2, 4, 5, 72] (fun x : Nat × RS × List ByteArray × Option Addr × Nat => [(73, .int .i64 (x.1 : Int))])
    (fun x => [(0, rdC b4 x.2.1), (1, blk b5 [.string (mkB nm), .slice ca code.length cc, .int .i64 d, .slice ea exps.length ec, .slice x.2.2.2.1 x.2.2.1.length x.2.2.2.2, .slice none 0 0] 27), (5, row x.2.2.2.1 x.2.2.2.2 9 1 x.2.2.1.length (strC x.2.2.1))])
    (fun x => x.1 ≤ ni ∧ x.2.2.1.length = x.1 ∧ x.2.1.1.length ≤ l.length ∧ (∀ y ∈ x.2.2.1, y.size ≤ 1000000) ∧ imT ni s9 [] = imT (ni - x.1) x.2.1 x.2.2.1) (fun x => ni - x.1) (0, s9, [], none, 0) ⟨by omega, rfl, by dsimp only; omega, fun y hy => (by cases hy), rfl⟩ ?_
  rintro ⟨k, s, acc, xa, xc⟩ ⟨hk, hacci, hsl2, hnm2, hct3⟩ K1 hK1
  dsimp only at hk hacci hsl2 hnm2 hct3 ⊢
  by_cases hlt : k < ni
  · obtain ⟨j, hj⟩ : ∃ j, ni - k = j + 1 := ⟨ni - k - 1, by omega⟩
    have hj2 : ni - (k + 1) = j := by omega
    rw [hj] at hct3
    simp only [imT] at hct3
    refine rr ?_
    refine dx [0, 1, 2, 3, 4, 5, 6, 7] [1] [0] ?_
    refine rr ?_
    refine cld (nameRC b4 s (by omega)) ?_
    intro _ _
    simp only [List.cons_append, List.nil_append, List.append_nil]
    obtain ⟨x, t1, q1⟩ := some_p (nameS s)
    have g8 := nameS_len s
    have g9 := nameS_in s
    rw [← q1] at g8 g9 hct3 ⊢
    dsimp only at g8 g9 hct3 ⊢
    have e2 : acc.length + 1 = (acc ++ [mkB x]).length := by simp
    refine rr ?_
    intro b79 _
    refine rr ?_
    rintro ⟨a1, c1⟩ ⟨hc1, _⟩
    refine rr ?_
    rw [strC_snoc, e2]
    exact ro hK1 (k + 1, t1, acc ++ [mkB x], a1, c1) ⟨by omega, by simp [hacci], by dsimp only; omega, fun y hy => by
      rcases List.mem_append.1 hy with hy | hy
      · exact hnm2 y hy
      · simp only [List.mem_singleton] at hy; subst hy; rw [mkB_size]; omega, by dsimp only; rw [hj2]; exact hct3⟩
  obtain rfl : k = ni := by omega
  rw [Nat.sub_self] at hct3
  simp only [imT] at hct3
  obtain ⟨imps, himps⟩ : ∃ imps, imps = acc := ⟨_, rfl⟩
  obtain ⟨s10, hs10⟩ : ∃ s10, s10 = s := ⟨_, rfl⟩
  rw [← himps] at hacci hct3 hnm2 ⊢
  rw [← hs10] at hsl2 hct3 ⊢
  obtain ⟨ia, ic, hia, hic⟩ : ∃ ca cc, ca = xa ∧ cc = xc := ⟨_, _, rfl, rfl⟩
  rw [← hia, ← hic]
  clear himps hs10 hia hic hK1
  refine rr ?_
  refine cl (numRC b4 s10 4 (by decide) (by omega)) ?_
  intro _ _
  simp only [List.cons_append, List.nil_append, List.append_nil]
  obtain ⟨np, s11, h10⟩ := some_p (numS 4 s10)
  have g11 := numS_len 4 s10
  have n11 := num4 s10
  rw [← h10] at g11 n11 ⊢
  dsimp only at g11 n11 ⊢
  refine rr ?_
  refine cl (mostC b4 s11 np 6 n11 (by omega) (by omega)) ?_
  intro _ _
  simp only [List.cons_append, List.nil_append, List.append_nil]
  obtain ⟨mpi, s12, h11⟩ := some_p (mostS np 6 s11)
  have g12 := mostS_len np 6 s11
  have n12 := mostS_range (n := np) (b := 6) (s := s11) n11.1 (by decide)
  rw [← h11] at g12 n12 ⊢
  dsimp only at g12 n12 ⊢
  obtain ⟨mp, rfl⟩ : ∃ n : Nat, mpi = (n : Int) := ⟨mpi.toNat, by omega⟩
  refine rr ?_
  refine hv [rdC b4 s12, blk b5 [.string (mkB nm), .slice ca code.length cc, .int .i64 d, .slice ea exps.length ec, .slice ia imps.length ic, .slice none 0 0] 27, blk b2 obZ 27, row ca cc 63 5 code.length (insC code), row ea ec 48 2 exps.length (syC exps), row ia ic 9 1 imps.length (strC imps), row none 0 54 3 0 []] ?_
  refine lo [2, 4, 5, 86] (fun x : Nat × RS × List Pa × Option Addr × Nat => [(87, .int .i64 (x.1 : Int))])
    (fun x => [(0, rdC b4 x.2.1), (1, blk b5 [.string (mkB nm), .slice ca code.length cc, .int .i64 d, .slice ea exps.length ec, .slice ia imps.length ic, .slice x.2.2.2.1 x.2.2.1.length x.2.2.2.2] 27), (6, row x.2.2.2.1 x.2.2.2.2 54 3 x.2.2.1.length (paC x.2.2.1))])
    (fun x => x.1 ≤ mp ∧ x.2.2.1.length = x.1 ∧ x.2.1.1.length ≤ l.length ∧ paT mp s12 [] = paT (mp - x.1) x.2.1 x.2.2.1) (fun x => mp - x.1) (0, s12, [], none, 0) ⟨by omega, rfl, by dsimp only; omega, rfl⟩ ?_
  rintro ⟨k, s, acc, xa, xc⟩ ⟨hk, haccp, hsl3, hct4⟩ K1 hK1
  dsimp only at hk haccp hsl3 hct4 ⊢
  by_cases hlt : k < mp
  · obtain ⟨j, hj⟩ : ∃ j, mp - k = j + 1 := ⟨mp - k - 1, by omega⟩
    have hj2 : mp - (k + 1) = j := by omega
    rw [hj] at hct4
    simp only [paT] at hct4
    refine rr ?_
    refine cl (numRC b4 s 4 (by decide) (by omega)) ?_
    intro _ _
    simp only [List.cons_append, List.nil_append, List.append_nil]
    obtain ⟨w1, t1, q1⟩ := some_p (numS 4 s)
    have g8 := numS_len 4 s
    rw [← q1] at g8 hct4 ⊢
    dsimp only at g8 hct4 ⊢
    refine rr ?_
    intro b9 _
    refine rr ?_
    refine cl (numRC b4 t1 1 (by decide) (by omega)) ?_
    intro _ _
    simp only [List.cons_append, List.nil_append, List.append_nil]
    obtain ⟨w2, t2, q2⟩ := some_p (numS 1 t1)
    have g9 := numS_len 1 t1
    rw [← q2] at g9 hct4 ⊢
    dsimp only at g9 hct4 ⊢
    refine rr ?_
    refine cl (numRC b4 t2 1 (by decide) (by omega)) ?_
    intro _ _
    simp only [List.cons_append, List.nil_append, List.append_nil]
    obtain ⟨w3, t3, q3⟩ := some_p (numS 1 t2)
    have g10 := numS_len 1 t2
    rw [← q3] at g10 hct4 ⊢
    dsimp only at g10 hct4 ⊢
    have e2 : acc.length + 1 = (acc ++ [(⟨w1, w2, w3⟩ : Pa)]).length := by simp
    have e3 := paC_snoc acc ⟨w1, w2, w3⟩
    dsimp only at e3
    refine rr ?_
    intro b101 _
    refine rr ?_
    rintro ⟨a1, c1⟩ ⟨hc1, _⟩
    refine rr ?_
    rw [e3, e2]
    exact ro hK1 (k + 1, t3, acc ++ [⟨w1, w2, w3⟩], a1, c1) ⟨by omega, by simp [haccp], by dsimp only; omega, by dsimp only; rw [hj2]; exact hct4⟩
  obtain rfl : k = mp := by omega
  rw [Nat.sub_self] at hct4
  simp only [paT] at hct4
  have hS := takeS_eq (l := l) (code := code) (s5 := s5) (exps := exps) (s8 := s8) (imps := imps) (s10 := s10) (pats := acc) (s13 := s) h1 h2 h3 (by rw [Int.toNat_natCast]; exact hct.symm) h5 h6 (by rw [Int.toNat_natCast]; exact hct2.symm) h8 (by rw [Int.toNat_natCast]; exact hct3.symm) h10 h11 (by rw [Int.toNat_natCast]; exact hct4.symm)
  obtain ⟨o, ho⟩ : ∃ o : Ob, o = ⟨mkB nm, ca, cc, code, d, ea, ec, exps, ia, ic, imps, xa, xc, acc⟩ := ⟨_, rfl⟩
  have hoC : canon o = (takeS l).1 := by rw [hS, ho]; rfl
  have hgo : goodO (takeS l).1 = goodO o := by rw [← hoC]; rfl
  have hnmz : (mkB nm).size ≤ maxLen := by
    have := nameS_in (headS l)
    rw [← h1] at this
    rw [mkB_size]; dsimp only at this; omega
  have hok : OkOb o := by
    rw [ho]
    exact ⟨hnmz, by show code.length ≤ _; omega, by show exps.length ≤ _; omega, by show imps.length ≤ _; omega, by show acc.length ≤ _; omega, fun y hy => Nat.le_trans (hnm y hy) (by decide), fun y hy => Nat.le_trans (hnm2 y hy) (by decide)⟩
  have hrt := rightOC o hok
  obtain ⟨sl, sb⟩ := s
  have hTk : takeOk l = (!sb && (decide (sl = []) && goodO o)) := by unfold takeOk; rw [hgo, hS]
  unfold takeF
  rw [hTk]
  clear hTk hgo hS
  unfold obG obS at hrt
  unfold rdC obZ
  dsimp only
  cases sb with
  | true =>
    refine rr ?_
    exact en emptyO rfl
  | false =>
    by_cases hsl0 : sl = []
    · subst hsl0
      rw [ho] at hrt
      dsimp only at hrt
      refine rr ?_
      refine cl (hrt) ?_
      intro _ _
      try simp only [List.cons_append, List.nil_append, List.append_nil]
      rw [← ho]
      cases hg : goodO o with
      | true =>
        refine rr ?_
        refine en o ?_ (hv := by rw [ho]; rfl) (hp := by rw [ho]; unfold obR; (repeat (first | exact Has.nil | (apply Has.cons; focus ((repeat (first | exact pick_here | apply pick_there)); done)) | apply Has.nrow | apply Has.gen0)))
        simp [hoC]
      | false =>
        refine rr ?_
        exact en emptyO rfl
    · have hd : (!decide (mkB sl = mkB [])) = true := by
        have : ¬ mkB sl = mkB [] := fun h => hsl0 (mkB_inj.1 h)
        rw [decide_eq_false this]; rfl
      have hd2 : decide (sl = []) = false := by simpa using hsl0
      rw [hd2]
      refine rr ?_
      exact en emptyO rfl
end Go.Proofs.Ytgmegfmabkkaoaa

/- Texts of the proof, in their order: Bd2, Bd3, Bd4, SxT, SxO, Dr2. -/
import Derived.Test.YtkolmklfgbimoaaGreatDoorM9
import Derived.Test.YtkolmklfgbimoaaGreatDoorM2
import Derived.HandedShaped
import Derived.SizedLaws
import Derived.Test.YtkolmklfgbimoaaGreatDoorRows
import Derived.Test.YtkolmklfgbimoaaGreatDoorM4
import Derived.Stop.LaidErr
import Derived.Lib.LaidTab
import Derived.MakeChecks
import Derived.LaidLaws
set_option linter.unusedVariables false
set_option linter.unusedSimpArgs false
namespace Go.Proofs.YtkolmklfgbimoaaGreatDoor
open Go Go.Sx Go.Sx.Chunk
set_option maxRecDepth 100000
def buV (r : Bu) (z : (Option Addr × Nat) × (Option Addr × Nat)) : Value := .tuple #[.agg #[.slice z.1.1 r.ic.length z.1.2, .int .i64 r.data, .slice z.2.1 r.code.length z.2.2, .int .i64 r.mem], .int .i64 r.n, .int .i64 r.pl, .int .i64 r.e]
def buH (r : Bu) (z : (Option Addr × Nat) × (Option Addr × Nat)) : List Chunk := [row z.1.1 z.1.2 105 5 r.ic.length (insC r.ic), row z.2.1 z.2.2 105 5 r.code.length (insC r.code)]
structure ObI (texts : List ByteArray) (k : Nat) (os : List Ob) : Prop where
 le : k ≤ texts.length
 len : os.length = k
 same : os.map canon = (texts.take k).map obT
 ok : ∀ o ∈ os, OkOb o
 good : ∀ (i : Nat) (s : ByteArray), i < k → texts[i]? = some s → (Cm.compF (Sc.txt s)).2.2 = 0
theorem ObI.step {texts : List ByteArray} {k : Nat} {os : List Ob} {s : ByteArray} (h : ObI texts k os) (hs : texts[k]? = some s) (hl : s.size ≤ 1000000) (he : (Cm.compF (Sc.txt s)).2.2 = 0) (x : Cm.Ax) : ObI texts (k + 1) (os ++ [Cm.obOf (Cm.compO (Sc.txt s)) x]) := by
 have hk : k < texts.length := (List.getElem?_eq_some_iff.1 hs).1
 refine ⟨hk, by rw [List.length_append, h.len]; rfl, ?_, ?_, ?_⟩
 ·rw [List.map_append, h.same, List.take_add_one, hs, List.map_append]; rfl
 ·intro o ho
  rcases List.mem_append.1 ho with ho | ho
  ·exact h.ok o ho
  ·rw [List.mem_singleton.1 ho]; exact Cm.comp_ok s hl x
 ·intro i t hi ht
  by_cases hik : i < k
  ·exact h.good i t hik ht
  ·obtain rfl : i = k := by omega
   rw [hs] at ht; cases ht; exact he
theorem linkF_obI {texts : List ByteArray} {os : List Ob} (h : ObI texts texts.length os) (mem : Int) : linkF os mem = linkF (texts.map obT) mem := by
 refine linkF_same ?_ mem
 rw [h.same, List.take_length, List.map_map]
 rfl
theorem linkF_len (l : List Ob) (mem : Int) : (linkF l mem).1.length ≤ 4096 := by
 have hp : ∀ (ps : List Pa) (b : Ba) (sy : List Sym) (all mem : Int) (imps : List ByteArray) (code : List In), (patsF b sy all mem imps code ps).2.length = code.length := by
  intro ps
  induction ps with
  | nil => intros; rfl
  | cons p ps ih =>
   intro b sy all mem imps code
   rw [patsF_cons]
   split
   ·rw [ih, patchF_len]
   ·exact patchF_len ..
 have ho : ∀ (zs : List (Ba × Ob)) (sy : List Sym) (all mem : Int) (code : List In), (objsF sy all mem code zs).2.length = code.length := by
  intro zs
  induction zs with
  | nil => intros; rfl
  | cons z zs ih =>
   intro sy all mem code
   rw [objsF_cons]
   split
   ·rw [ih, hp]
   ·exact hp ..
 unfold linkF
 split
 ·simp
 ·split
  ·simp
  ·split
   ·simp
   ·dsimp only
    split
    ·dsimp only
     rw [ho]
     omega
    ·simp
set_option maxRecDepth 100000 in
set_option maxHeartbeats 16000000 in
theorem buildC (ta : Option Addr) (tc : Nat) (texts : List ByteArray) (mem : Int) (htl : texts.length ≤ 100) (hts : ∀ s ∈ texts, s.size ≤ 1000000) : FnC Tryz.prog 12 [.slice ta texts.length tc, .int .i64 mem] [] [rng ta (strC texts), Cm.spaceV] (fun z => buV (buildF texts mem) z) (fun z => buH (buildF texts mem) z) (fun _ => True) := by
 have hsl : (strC texts).length = texts.length := by simp [strC]
 unfold buV buH
 refine fn_intro Tryz.func12 Tryz.ntmps12 rfl rfl rfl (fun w0 => ?_)
 try simp only [Sx.ap1, Sx.ap2, Sx.ap3]
 refine rr ?_
 intro b4 _
 refine rr ?_
 refine hv [blk b4 [.slice none 0 0, .int .i64 0, .slice none 0 0, .int .i64 0] 28, row none 0 36 6 ([] : List Ob).length (obC []), genL (([] : List Ob).flatMap obS), rng ta (strC texts), Cm.spaceV] ?_
 refine lo [0, 1, 4, 18, 19] (fun y : Nat × List Ob × Option Addr × Nat => [(8, .slice y.2.2.1 y.2.1.length y.2.2.2), (20, .int .i64 (y.1 : Int))]) (fun y => [(1, row y.2.2.1 y.2.2.2 36 6 y.2.1.length (obC y.2.1)), (2, genL (y.2.1.flatMap obS))]) (fun y => ObI texts y.1 y.2.1) (fun y => texts.length - y.1) (0, [], none, 0) ⟨Nat.zero_le _, rfl, rfl, fun o ho => (by cases ho), fun i s hi => (by omega)⟩ ?_
 rintro ⟨k, os, ba, bc⟩ hx K1 hK1
 dsimp only at hx ⊢
 have hkl := hx.le
 have hol := hx.len
 have hocl := obC_len os
 by_cases hlt : k < texts.length
 ·obtain ⟨s, hs⟩ := some_at hlt
  have hss := hts s (List.mem_of_getElem? hs)
  have hco := Cm.compileC s hss
  have hgs : (strC texts)[(k : Int).toNat * 1]? = some (.string s) := by
   rw [show (k : Int).toNat * 1 = k by omega]; unfold strC; rw [List.getElem?_map, hs]; rfl
  refine w_use (fun w hw => (hw.pick 3 rfl).rng_some (by omega)) ?_
  rintro ⟨g1, rfl⟩
  by_cases he : (Cm.compF (Sc.txt s)).2.2 = 0
  ·have hst := fun x => hx.step hs hss he x
   unfold obT at *
   generalize Cm.compO (Sc.txt s) = o at *
   generalize (Cm.compF (Sc.txt s)).2.1 = pl at *
   generalize (Cm.compF (Sc.txt s)).2.2 = e at *
   subst he
   unfold Cm.o6G Cm.o6H at hco
   refine rr ?_
   refine cl (hco) ?_
   intro x _
   try simp only [Sx.ap1, Sx.ap2, Sx.ap3]
   refine rr ?_
   intro b11 _
   refine rr ?_
   intro b12 _
   refine rr ?_
   rintro ⟨pa, pc⟩ ⟨ph, _⟩
   refine rr ?_
   have hst2 := hst x
   have hce : obC os ++ [Value.string o.name, .slice x.ca o.code.length x.cc, .int .i64 o.data, .slice x.ea o.exps.length x.ec, .slice x.ia o.imps.length x.ic, .slice x.pa o.pats.length x.pc] = obC (os ++ [Cm.obOf o x]) := by unfold obC; rw [List.flatMap_append]; rfl
   rw [hce, show os.length + 1 = (os ++ [Cm.obOf o x]).length by simp]
   refine hv [genL (os.flatMap obS), row x.ca x.cc 105 5 o.code.length (insC o.code), row x.ea x.ec 154 2 o.exps.length (syC o.exps), row x.ia x.ic 9 1 o.imps.length (strC o.imps), row x.pa x.pc 94 3 o.pats.length (paC o.pats), blk b4 [.slice none 0 0, .int .i64 0, .slice none 0 0, .int .i64 0] 28, row pa pc 36 6 (os ++ [Cm.obOf o x]).length (obC (os ++ [Cm.obOf o x])), rng (some g1) (strC texts), Cm.spaceV] ?_
   refine w_turn (fun w hw => gen_row hw) ?_
   refine w_turn (fun w hw => gen_row hw) ?_
   refine w_turn (fun w hw => gen_row hw) ?_
   refine w_turn (fun w hw => gen_row hw) ?_
   have hge : os.flatMap obS ++ [rng x.ca (insC o.code)] ++ [rng x.ea (syC o.exps)] ++ [rng x.ia (strC o.imps)] ++ [rng x.pa (paC o.pats)] = (os ++ [Cm.obOf o x]).flatMap obS := by rw [List.flatMap_append, List.append_assoc, List.append_assoc, List.append_assoc]; rfl
   rw [hge]
   exact ro hK1 (k + 1, os ++ [Cm.obOf o x], pa, pc) hst2
  ·have hbad := badF_take texts 0 k s hx.good hs he
   have hbu : buildF texts mem = ⟨[], 0, [], 0, (k : Int), (Cm.compF (Sc.txt s)).2.1, (Cm.compF (Sc.txt s)).2.2⟩ := by
    unfold buildF; rw [hbad]; simp
   rw [hbu]
   generalize Cm.compO (Sc.txt s) = o at *
   generalize (Cm.compF (Sc.txt s)).2.1 = pl at *
   generalize (Cm.compF (Sc.txt s)).2.2 = e at *
   unfold Cm.o6G Cm.o6H at hco
   dsimp only
   refine rr ?_
   refine cl (hco) ?_
   intro x _
   try simp only [Sx.ap1, Sx.ap2, Sx.ap3]
   refine rr ?_
   intro b11 _
   refine rr ?_
   exact en ((none, 0), (none, 0)) trivial
 ·obtain rfl : k = texts.length := by omega
  have hlk := linkC ba bc os mem (by omega) hx.ok
  have hnb := badF_none texts 0 (fun i s hs => hx.good i s (List.getElem?_eq_some_iff.1 hs).1 hs)
  have hle := linkF_obI hx mem
  have hbl := linkF_len os mem
  rw [hle] at hlk hbl
  have hbu : buildF texts mem = (if (linkF (texts.map obT) mem).2.2 ≠ 0 then (⟨[], 0, [], 0, (texts.length : Int), 0, (linkF (texts.map obT) mem).2.2⟩ : Bu) else if (reorgF (linkF (texts.map obT) mem).1).2.2 ≠ 0 then ⟨[], 0, [], 0, (texts.length : Int), 0, (reorgF (linkF (texts.map obT) mem).1).2.2⟩ else ⟨(linkF (texts.map obT) mem).1, (linkF (texts.map obT) mem).2.1, (reorgF (linkF (texts.map obT) mem).1).1, mem, 0, 0, 0⟩) := by
   unfold buildF; rw [hnb]
  rw [hbu]
  generalize linkF (texts.map obT) mem = r at *
  have hre := fun la lc (h : r.1.length ≤ lc) => reorgC la lc r.1 h (by omega)
  unfold linkV at hlk
  unfold reoV reoH at hre
  generalize reorgF r.1 = q at *
  obtain ⟨ic, data, e⟩ := r
  obtain ⟨nc, ps, e2⟩ := q
  dsimp only at *
  refine rr ?_
  refine cl (hlk) (hl := lend_row (by repeat (first | exact find_here | apply find_there)) (lend_prov rfl (prov_see (fun c hc => (gen_mem hc).one (prov_mem (nthC_mem (i := 2) rfl)))) trivial)) ?_
  intro ⟨za, zc⟩ _
  try simp only [Sx.ap1, Sx.ap2, Sx.ap3]
  refine rr ?_
  intro b14 _
  refine rr ?_
  by_cases he : e = 0
  ·subst he
   rw [if_neg (by simp)]
   refine w_use (fun w hw => (hw.pick 1 rfl).row_cap) ?_
   intro hcap
   refine rr ?_
   refine cl (hre za zc hcap) ?_
   intro ⟨⟨na, nc'⟩, ⟨pa2, pc2⟩⟩ _
   try simp only [Sx.ap1, Sx.ap2, Sx.ap3]
   refine rr ?_
   by_cases he2 : e2 = 0
   ·subst he2
    rw [if_neg (by simp)]
    refine rr ?_
    exact en ((za, zc), (na, nc')) trivial
   ·rw [if_pos he2]
    refine rr ?_
    exact en ((none, 0), (none, 0)) trivial
  ·rw [if_pos he]
   refine rr ?_
   exact en ((none, 0), (none, 0)) trivial
end Go.Proofs.YtkolmklfgbimoaaGreatDoor
namespace Go.Proofs.YtkolmklfgbimoaaGreatDoor
open Go Go.Sx Go.Sx.Chunk
set_option maxRecDepth 100000
def awT1 : List UInt8 := [112, 114, 111, 103, 114, 97, 109, 32, 97, 59, 32, 98, 101, 103, 105, 110, 32, 119, 114, 105, 116, 101, 32, 55, 32, 101, 110, 100, 46]
def awT2 : List UInt8 := [109, 111, 100, 117, 108, 101, 32, 98, 59, 32, 101, 110, 100, 46]
def awT3 : List UInt8 := [63]
def awB : Bool := (let r := buildF [Sc.bs awT1] 10; Nat.blt 0 r.code.length && (r.mem == 10 && (r.n == 0 && (r.pl == 0 && r.e == 0))))
def awB2 : Bool := (let r := buildF [Sc.bs awT2, Sc.bs awT3] 10; r.n == 1 && (r.pl == 0 && r.e == 2))
theorem awB_ok : awB = true := by decide +kernel
theorem awB2_ok : awB2 = true := by decide +kernel
theorem same20C (a b : Option Addr) (c d : Nat) (x y : List In) (hx : x.length ≤ 9223372036854775807) (hy : y.length ≤ 9223372036854775807) :
  FnC (α := Unit) Tryz.prog 16 [.slice a x.length c, .slice b y.length d] [] [rng a (insC x), rng b (insC y)] (fun _ => .bool (decide (x = y))) (fun _ => []) (fun _ => True) := by
 refine fn_intro Tryz.func16 Tryz.ntmps16 rfl rfl rfl (fun w0 => ?_)
 try simp only [Sx.ap1, Sx.ap2, Sx.ap3]
 by_cases hlen : x.length = y.length
 ·skip
  refine rr ?_
  refine lo [0, 1, 12] (fun k : Nat => [(13, .int .i64 (k : Int))]) (fun k => []) (fun k => k ≤ x.length ∧ x.take k = y.take k) (fun k => x.length - k) 0 ⟨by omega, by simp⟩ ?_
  rintro k ⟨hk, heq⟩ K1 hK1
  by_cases hlt : k < x.length
  ·obtain ⟨e, he⟩ := some_at hlt
   obtain ⟨f, hf⟩ := some_at (l := y) (k := k) (by omega)
   have heA : ((insC x).drop ((k : Int).toNat * 5)).take 5 = [.int .i64 e.op, .int .i64 e.a, .int .i64 e.b, .int .i64 e.c, .int .i64 e.imm] := insC_all he _ (by omega)
   have heL := insC_len x
   have hfA : ((insC y).drop ((k : Int).toNat * 5)).take 5 = [.int .i64 f.op, .int .i64 f.a, .int .i64 f.b, .int .i64 f.c, .int .i64 f.imm] := insC_all hf _ (by omega)
   have hfL := insC_len y
   refine rr ?_
   refine dx [0, 1, 2, 3, 4, 5, 6, 7, 8] [3, 7] [] ?_
   refine rr ?_
   by_cases hef : e = f
   ·subst hef
    refine rr ?_
    exact ro hK1 (k + 1) ⟨by omega, by rw [take_snoc he, take_snoc hf, heq]⟩
   ·have hne : (!(e.op == f.op && (e.a == f.a && (e.b == f.b && (e.c == f.c && (e.imm == f.imm && true)))))) = true := by
     obtain ⟨e1, e2, e3, e4, e5⟩ := e
     obtain ⟨f1, f2, f3, f4, f5⟩ := f
     simp only [In.mk.injEq, not_and] at hef
     simp
     omega
    refine rr ?_
    refine en () trivial (hv := ?_)
    have : x ≠ y := fun h => by rw [h, hf] at he; exact hef (Option.some.inj he).symm
    simp [packR, this]
  ·obtain rfl : k = x.length := by omega
   rw [List.take_length, hlen, List.take_length] at heq
   refine rr ?_
   refine en () trivial (hv := ?_)
   simp [packR, heq]
 ·skip
  refine rr ?_
  refine en () trivial (hv := ?_)
  have : x ≠ y := fun h => hlen (by rw [h])
  simp [packR, this]
set_option maxHeartbeats 4000000 in
theorem awake20C : FnC (α := Unit) Tryz.prog 11 [] [] [Cm.spaceV] (fun _ => .bool true) (fun _ => []) (fun _ => True) := by
 have h1 : ∀ V, V = strC [Sc.bs awT1] → ∀ ta tc, FnC Tryz.prog 12 [.slice ta 1 tc, .int .i64 10] [] [rng ta V, Cm.spaceV] (fun z => buV (buildF [Sc.bs awT1] 10) z) (fun z => buH (buildF [Sc.bs awT1] 10) z) (fun _ => True) := by
  intro V hV ta tc; subst hV
  exact buildC ta tc [Sc.bs awT1] 10 (by decide) (fun s hs => by rw [List.mem_singleton.1 hs, Sc.bs_size]; decide)
 have h2 : ∀ V, V = strC [Sc.bs awT2, Sc.bs awT3] → ∀ ta tc, FnC Tryz.prog 12 [.slice ta 2 tc, .int .i64 10] [] [rng ta V, Cm.spaceV] (fun z => buV (buildF [Sc.bs awT2, Sc.bs awT3] 10) z) (fun z => buH (buildF [Sc.bs awT2, Sc.bs awT3] 10) z) (fun _ => True) := by
  intro V hV ta tc; subst hV
  exact buildC ta tc [Sc.bs awT2, Sc.bs awT3] 10 (by decide) (fun s hs => by
   simp only [List.mem_cons, List.not_mem_nil, or_false] at hs
   rcases hs with rfl | rfl <;> (rw [Sc.bs_size]; decide))
 have f1 := awB_ok
 have f2 := awB2_ok
 unfold awB at f1
 unfold awB2 at f2
 unfold buV buH at h1 h2
 generalize buildF [Sc.bs awT1] 10 = r1 at *
 generalize buildF [Sc.bs awT2, Sc.bs awT3] 10 = r2 at *
 simp only [Bool.and_eq_true, beq_iff_eq] at f1 f2
 obtain ⟨c1, d1, e1, m1, n1, p1, q1⟩ := r1
 obtain ⟨c2, d2, e2, m2, n2, p2, q2⟩ := r2
 dsimp only at *
 obtain ⟨g1, rfl, rfl, rfl, rfl⟩ := f1
 obtain ⟨rfl, rfl, rfl⟩ := f2
 have g2 : (decide ((e1.length : Int) > 0)) = true := by
  rw [Nat.blt_eq] at g1
  simp; omega
 clear g1
 refine fn_intro Tryz.func11 Tryz.ntmps11 rfl rfl rfl (fun w0 => ?_)
 try simp only [Sx.ap1, Sx.ap2, Sx.ap3]
 refine rr ?_
 intro b1 _
 refine rr ?_
 refine cl (h1 _ (by kernel_rfl) _ _) ?_
 intro x _
 try simp only [Sx.ap1, Sx.ap2, Sx.ap3]
 refine rr ?_
 intro b2 _
 refine rr ?_
 intro b3 _
 refine rr ?_
 refine cl (h2 _ (by kernel_rfl) _ _) ?_
 intro y _
 try simp only [Sx.ap1, Sx.ap2, Sx.ap3]
 refine rr ?_
 intro b4 _
 refine rr ?_
 exact en () trivial
end Go.Proofs.YtkolmklfgbimoaaGreatDoor
namespace Go.Proofs.YtkolmklfgbimoaaGreatDoor
open Go Go.Sx Go.Sx.Chunk
set_option maxRecDepth 100000
theorem row_max {w0 w : World} {M : Nat → Prop} {H : List Chunk} {ao : Option Addr} {cap e sz len : Nat} {xs : List Value} (hw : St w0 M w (row ao cap e sz len xs :: H)) : len ≤ maxLen := by
 have hok : w.ownsRow 0 e sz (.slice ao len cap) len xs := hw.head
 rcases hok.2 with ⟨_, hz⟩ | ⟨g, c', cur, hv, _, _, hle, hm, _⟩
 ·omega
 ·omega
theorem same_self (a b : Option Addr) (c d : Nat) (x : List In) (hx : x.length ≤ 9223372036854775807) : FnC (α := Unit) Tryz.prog 16 [.slice a x.length c, .slice b x.length d] [] [rng a (insC x), rng b (insC x)] (fun _ => .bool true) (fun _ => []) (fun _ => True) := by
 have h := same20C a b c d x x hx hx
 rw [show decide (x = x) = true by simp] at h
 exact h
set_option maxRecDepth 100000 in
set_option maxHeartbeats 16000000 in
theorem tells_law (ta : Option Addr) (tc : Nat) (texts : List ByteArray) (mem : Int) (htl : texts.length ≤ maxLen) : FnC (α := Unit) Tryz.prog 3 [.slice ta texts.length tc, .int .i64 mem] [] [rng ta (strC texts), Cm.spaceV] (fun _ => .bool true) (fun _ => []) (fun _ => True) := by
 have haw := awake20C
 have hsl : (strC texts).length = texts.length := by simp [strC]
 have hgt : ∀ (k : Nat) (s : ByteArray), texts[k]? = some s → (strC texts)[(k : Int).toNat * 1]? = some (.string s) := by
  intro k s hs
  rw [show (k : Int).toNat * 1 = k by omega]; unfold strC; rw [List.getElem?_map, hs]; rfl
 by_cases h4 : 4 < texts.length
 ·skip
  refine fn_intro Tryz.func3 Tryz.ntmps3 rfl rfl rfl (fun w0 => ?_)
  try simp only [Sx.ap1, Sx.ap2, Sx.ap3]
  refine rr ?_
  refine cl (haw) ?_
  intro _ _
  try simp only [Sx.ap1, Sx.ap2, Sx.ap3]
  refine rr ?_
  exact en () trivial
 refine fn_intro Tryz.func3 Tryz.ntmps3 rfl rfl rfl (fun w0 => ?_)
 try simp only [Sx.ap1, Sx.ap2, Sx.ap3]
 refine rr ?_
 refine lo [0, 1, 24, 25] (fun k : Nat => [(26, .int .i64 (k : Int))]) (fun k => []) (fun k => k ≤ texts.length ∧ ∀ (i : Nat) (s : ByteArray), i < k → texts[i]? = some s → s.size ≤ 400) (fun k => texts.length - k) 0 ⟨Nat.zero_le _, fun i s hi => (by omega)⟩ ?_
 rintro k ⟨hk, hks⟩ K1 hK1
 dsimp only at hk ⊢
 by_cases hlt : k < texts.length
 ·obtain ⟨s, hs⟩ := some_at hlt
  have hgs := hgt k s hs
  refine w_use (fun w hw => (hw.pick 0 rfl).rng_some (by omega)) ?_
  rintro ⟨g1, rfl⟩
  by_cases h400 : 400 < s.size
  ·skip
   refine rr ?_
   refine cl (haw) ?_
   intro _ _
   try simp only [Sx.ap1, Sx.ap2, Sx.ap3]
   refine rr ?_
   exact en () trivial
  ·skip
   refine rr ?_
   refine ro hK1 (k + 1) ⟨by omega, ?_⟩
   intro i t hi ht
   by_cases hik : i < k
   ·exact hks i t hik ht
   ·obtain rfl : i = k := by omega
    rw [hs] at ht; cases ht; omega
 obtain rfl : k = texts.length := by omega
 have hts : ∀ s ∈ texts, s.size ≤ 400 := fun s hs => by
  obtain ⟨i, hi, rfl⟩ := List.mem_iff_getElem.1 hs
  exact hks i _ hi (List.getElem?_eq_getElem hi)
 clear hks
 have hbc := buildC ta tc texts mem (by omega) (fun s hs => Nat.le_trans (hts s hs) (by decide))
 unfold buV buH at hbc
 generalize hr : buildF texts mem = r at *
 refine rr ?_
 refine cl (hbc) ?_
 intro ⟨⟨ia1, ic1⟩, ⟨ca1, cc1⟩⟩ _
 try simp only [Sx.ap1, Sx.ap2, Sx.ap3]
 refine rr ?_
 intro b7 _
 refine rr ?_
 refine hv [row none 0 36 6 ([] : List Ob).length (obC []), genL (([] : List Ob).flatMap obS), blk b7 [.slice ia1 r.ic.length ic1, .int .i64 r.data, .slice ca1 r.code.length cc1, .int .i64 r.mem] 28, row ia1 ic1 105 5 r.ic.length (insC r.ic), row ca1 cc1 105 5 r.code.length (insC r.code), rng ta (strC texts), Cm.spaceV] ?_
 refine lo [0, 1, 7, 8, 9, 10, 43, 44] (fun y : Nat × List Ob × Option Addr × Nat => [(11, .slice y.2.2.1 y.2.1.length y.2.2.2), (45, .int .i64 (y.1 : Int))]) (fun y => [(0, row y.2.2.1 y.2.2.2 36 6 y.2.1.length (obC y.2.1)), (1, genL (y.2.1.flatMap obS))]) (fun y => ObI texts y.1 y.2.1) (fun y => texts.length - y.1) (0, [], none, 0) ⟨Nat.zero_le _, rfl, rfl, fun o ho => (by cases ho), fun i s hi => (by omega)⟩ ?_
 rintro ⟨k, os, ba, bc⟩ hx K1 hK1
 dsimp only at hx ⊢
 have hkl := hx.le
 have hol := hx.len
 have hocl := obC_len os
 by_cases hlt : k < texts.length
 ·obtain ⟨s, hs⟩ := some_at hlt
  have hss := Nat.le_trans (hts s (List.mem_of_getElem? hs)) (show 400 ≤ 1000000 by decide)
  have hco := Cm.compileC s hss
  have hgs := hgt k s hs
  refine w_use (fun w hw => (hw.pick 5 rfl).rng_some (by omega)) ?_
  rintro ⟨g1, rfl⟩
  by_cases he : (Cm.compF (Sc.txt s)).2.2 = 0
  ·have hst := fun x => hx.step hs hss he x
   clear hr
   unfold obT at *
   generalize Cm.compO (Sc.txt s) = o at *
   generalize (Cm.compF (Sc.txt s)).2.1 = pl at *
   generalize (Cm.compF (Sc.txt s)).2.2 = e at *
   subst he
   unfold Cm.o6G Cm.o6H at hco
   refine rr ?_
   refine cl (hco) ?_
   intro x _
   try simp only [Sx.ap1, Sx.ap2, Sx.ap3]
   refine rr ?_
   intro b14 _
   refine rr ?_
   intro b15 _
   refine rr ?_
   rintro ⟨pa, pc⟩ ⟨ph, _⟩
   refine rr ?_
   have hst2 := hst x
   have hce : obC os ++ [Value.string o.name, .slice x.ca o.code.length x.cc, .int .i64 o.data, .slice x.ea o.exps.length x.ec, .slice x.ia o.imps.length x.ic, .slice x.pa o.pats.length x.pc] = obC (os ++ [Cm.obOf o x]) := by unfold obC; rw [List.flatMap_append]; rfl
   rw [hce, show os.length + 1 = (os ++ [Cm.obOf o x]).length by simp]
   refine hv [genL (os.flatMap obS), row x.ca x.cc 105 5 o.code.length (insC o.code), row x.ea x.ec 154 2 o.exps.length (syC o.exps), row x.ia x.ic 9 1 o.imps.length (strC o.imps), row x.pa x.pc 94 3 o.pats.length (paC o.pats), blk b7 [.slice ia1 r.ic.length ic1, .int .i64 r.data, .slice ca1 r.code.length cc1, .int .i64 r.mem] 28, row ia1 ic1 105 5 r.ic.length (insC r.ic), row ca1 cc1 105 5 r.code.length (insC r.code), row pa pc 36 6 (os ++ [Cm.obOf o x]).length (obC (os ++ [Cm.obOf o x])), rng (some g1) (strC texts), Cm.spaceV] ?_
   refine w_turn (fun w hw => gen_row hw) ?_
   refine w_turn (fun w hw => gen_row hw) ?_
   refine w_turn (fun w hw => gen_row hw) ?_
   refine w_turn (fun w hw => gen_row hw) ?_
   have hge : os.flatMap obS ++ [rng x.ca (insC o.code)] ++ [rng x.ea (syC o.exps)] ++ [rng x.ia (strC o.imps)] ++ [rng x.pa (paC o.pats)] = (os ++ [Cm.obOf o x]).flatMap obS := by rw [List.flatMap_append, List.append_assoc, List.append_assoc, List.append_assoc]; rfl
   rw [hge]
   exact ro hK1 (k + 1, os ++ [Cm.obOf o x], pa, pc) hst2
  ·have hbad := badF_take texts 0 k s hx.good hs he
   have hbu : buildF texts mem = ⟨[], 0, [], 0, (k : Int), (Cm.compF (Sc.txt s)).2.1, (Cm.compF (Sc.txt s)).2.2⟩ := by
    unfold buildF; rw [hbad]; simp
   rw [hbu] at hr
   subst hr
   clear hbu hbad hbc
   generalize Cm.compO (Sc.txt s) = o at *
   generalize (Cm.compF (Sc.txt s)).2.1 = pl at *
   generalize (Cm.compF (Sc.txt s)).2.2 = e at *
   unfold Cm.o6G Cm.o6H at hco
   dsimp only
   refine rr ?_
   refine cl (hco) ?_
   intro x _
   try simp only [Sx.ap1, Sx.ap2, Sx.ap3]
   have hk1 : ((k : Int) == (k : Int)) = true := by simp
   have hk2 : (pl == pl) = true := by simp
   have hk3 : (e == e) = true := by simp
   refine rr ?_
   intro b14 _
   refine rr ?_
   refine cl (haw) ?_
   intro _ _
   try simp only [Sx.ap1, Sx.ap2, Sx.ap3]
   refine rr ?_
   exact en () trivial
 ·obtain rfl : k = texts.length := by omega
  have hlk := linkC ba bc os mem (by omega) hx.ok
  have hnb := badF_none texts 0 (fun i s hs => hx.good i s (List.getElem?_eq_some_iff.1 hs).1 hs)
  have hle := linkF_obI hx mem
  have hbl := linkF_len os mem
  rw [hle] at hlk hbl
  have hbu : buildF texts mem = (if (linkF (texts.map obT) mem).2.2 ≠ 0 then (⟨[], 0, [], 0, (texts.length : Int), 0, (linkF (texts.map obT) mem).2.2⟩ : Bu) else if (reorgF (linkF (texts.map obT) mem).1).2.2 ≠ 0 then ⟨[], 0, [], 0, (texts.length : Int), 0, (reorgF (linkF (texts.map obT) mem).1).2.2⟩ else ⟨(linkF (texts.map obT) mem).1, (linkF (texts.map obT) mem).2.1, (reorgF (linkF (texts.map obT) mem).1).1, mem, 0, 0, 0⟩) := by
   unfold buildF; rw [hnb]
  rw [hr] at hbu
  generalize linkF (texts.map obT) mem = q at *
  have hre := fun la lc (h : q.1.length ≤ lc) => reorgC la lc q.1 h (by omega)
  unfold linkV at hlk
  unfold reoV reoH at hre
  generalize reorgF q.1 = u at *
  obtain ⟨lcode, data, e⟩ := q
  obtain ⟨ncode, ps, e2⟩ := u
  dsimp only at *
  clear hr hbc hnb hle
  have hk1 : ((texts.length : Int) == (texts.length : Int)) = true := by simp
  have hk2 : (mem == mem) = true := by simp
  have hk3 : (e == e) = true := by simp
  have hk4 : (data == data) = true := by simp
  have hk5 : (e2 == e2) = true := by simp
  refine rr ?_
  refine cl (hlk) (hl := lend_row (by repeat (first | exact find_here | apply find_there)) (lend_prov rfl (prov_see (fun c hc => (gen_mem hc).one (prov_mem (nthC_mem (i := 1) rfl)))) trivial)) ?_
  intro ⟨za, zc⟩ _
  try simp only [Sx.ap1, Sx.ap2, Sx.ap3]
  refine rr ?_
  intro b17 _
  refine rr ?_
  by_cases he : e = 0
  ·subst he
   rw [if_neg (by simp)] at hbu
   refine w_use (fun w hw => (hw.pick 1 rfl).row_cap) ?_
   intro hcap
   refine rr ?_
   refine cl (hre za zc hcap) ?_
   intro ⟨⟨na, nc'⟩, ⟨pa2, pc2⟩⟩ _
   try simp only [Sx.ap1, Sx.ap2, Sx.ap3]
   refine rr ?_
   by_cases he2 : e2 = 0
   ·subst he2
    rw [if_neg (by simp)] at hbu
    subst hbu
    dsimp only
    refine w_use (fun w hw => row_max (hw.pick 0 rfl)) ?_
    intro hnm
    have hs1 := same_self ia1 za ic1 zc lcode (by omega)
    have hs2 := same_self ca1 na cc1 nc' ncode (by unfold maxLen at hnm; omega)
    refine rr ?_
    refine cl (hs1) ?_
    intro _ _
    try simp only [Sx.ap1, Sx.ap2, Sx.ap3]
    refine rr ?_
    refine cl (hs2) ?_
    intro _ _
    try simp only [Sx.ap1, Sx.ap2, Sx.ap3]
    refine rr ?_
    refine cl (haw) ?_
    intro _ _
    try simp only [Sx.ap1, Sx.ap2, Sx.ap3]
    refine rr ?_
    exact en () trivial
   ·rw [if_pos he2] at hbu
    subst hbu
    dsimp only
    refine rr ?_
    refine cl (haw) ?_
    intro _ _
    try simp only [Sx.ap1, Sx.ap2, Sx.ap3]
    refine rr ?_
    exact en () trivial
  ·rw [if_pos he] at hbu
   subst hbu
   dsimp only
   refine rr ?_
   refine cl (haw) ?_
   intro _ _
   try simp only [Sx.ap1, Sx.ap2, Sx.ap3]
   refine rr ?_
   exact en () trivial
end Go.Proofs.YtkolmklfgbimoaaGreatDoor
namespace Go.Sx
open Go Chunk
section
variable {H : Type} {enc : TypeId × Value → H}
theorem handed_door {a : Assume} {C : Checked} {os : Os} {f : FuncId} {fn : Func} {s : ChangeSpec} {conds : List PathCond} {apart fresh handsOn again : Bool} {X : World → Array Value → Prop}
  (hX : ∀ (w w' : World) (args : Array Value), w.heap = w'.heap → X w args → X w' args)
  (own : ownKnob C.prog.godebug = none) (started : os.Started) (noInit : C.prog.inits.idxOf? f = none) (hfn : C.prog.funcs[f]? = some fn)
  (witness : ∃ (w : World) (tape : Tape) (i : Input), w.os = os ∧ (w.forCall tape i).Shaped C.prog ∧ i.vars = [] ∧ Input.okWide C.prog (w.forCall tape i) .any w.heap.size f i ∧
   ((s.pre enc C.prog fn conds apart (w.forCall tape i).memory i.args ∧ X (w.forCall tape i).memory i.args) ∧ sizedMet enc C.prog fn (OpenSpec.ofChange s) apart (w.forCall tape i).memory i.args) ∧ a.holds C.prog (lone (Frame.enter C.prog f i.args .normal) [] (w.forCall tape i)))
  (contract : ∀ (W : World) (base : Nat) (args : Array Value) (ds gs : List (DataW H)) (before : List MemPlace),
   (∀ (j : Nat) t v, fn.params[j]? = some t → args[j]? = some v → Value.okWide C.prog W .any base t v) →
   DataW.Whole enc C.prog fn.params.toList s.vars apart W args.toList ds gs before →
   conds.all (PathCond.test C.prog ⟨fn.params.toList, ds, s.plain.varTypes C.prog, gs⟩) = true →
   (DataW.weightsEach C.prog (fn.params.toList ++ s.plain.varTypes C.prog) (ds ++ gs)).all (· ≤ reachBytes) = true → X W args → W.ShapedOpen C.prog →
   a.holds C.prog (lone (Frame.enter C.prog f args .normal) [] W) →
   Calls C.prog f args W fun e W' => ∃ v, e = .returned v ∧ s.post enc C.prog fn apart fresh handsOn again W args v W') :
  ReturnsInHanded a C os f .any (fun w args => (s.pre enc C.prog fn conds apart w args ∧ X w args) ∧ sizedMet enc C.prog fn (OpenSpec.ofChange s) apart w args) (s.post enc C.prog fn apart fresh handsOn again) := by
 refine returnsInHanded_of_calls own started noInit witness ?_
 intro w tape i _ hsh _ hok hpre hholds
 obtain ⟨_, _, _, fn', hfn', _, _, _, _, hval⟩ := hok
 obtain rfl : fn' = fn := Option.some.inj (hfn'.symm.trans hfn)
 obtain ⟨⟨⟨ds, gs, before, hw, hc⟩, hx⟩, hz⟩ := hpre
 have hw' := DataW.Whole.of_heap (w' := w.forCall tape i) (by rfl) hw
 refine (contract (w.forCall tape i) w.heap.size i.args ds gs before hval hw' hc (hz.weights hw) (hX _ _ _ (by rfl) hx) hsh hholds).mono fun e W' ⟨v, he, hp⟩ => ?_
 subst he
 exact ChangeSpec.post_blind hp
end
theorem int_of_shape {P : Program} {w : World} {g : Nat} {t : TypeId} {zero : Array Value} {k : IntKind} (h : w.ShapedOpen P) (hg : g < P.globals.size)
  (h0 : ((begin P (fun _ _ => 0) default).world.heap[g]?).bind Obj.row? = some (zero, t)) (hz : zero.size = 1)
  (hb : P.buildable t = true) (hc : P.cellTypes P.depth t = some [t]) (hu : P.underlying t = some (.int k)) : ∃ n, w.cell? ⟨g, 0, none⟩ = some (.int k n) := by
 obtain ⟨cs, hh, hs, hr⟩ := h.1 g zero t hg h0
 obtain ⟨ts, hts, _, hall⟩ := hr hb
 rw [hc] at hts
 cases hts
 have h1 : 0 < cs.size := by omega
 obtain ⟨u, hu', hok⟩ := hall 0 cs[0] (by simp [h1])
 have e : u = t := by simpa using hu'.symm
 subst e
 have hcell : w.cell? ⟨g, 0, none⟩ = some cs[0] := by simp [World.cell?, hh, h1]
 rw [hcell]
 unfold Cell.ok at hok
 rw [hu] at hok
 cases hv : cs[0] <;> rw [hv] at hok <;> first | (simp at hok; done) | skip
 rename_i k' n'
 simp only [] at hok
 refine ⟨n', ?_⟩
 have : k' = k := by simp_all
 rw [this]
theorem cell_lt {w : World} {a : Addr} {v : Value} (h : w.cell? a = some v) : a.block < w.heap.size := by
 unfold World.cell? at h
 split at h
 ·rename_i hb; exact (Array.getElem?_eq_some_iff.1 hb).1
 ·cases h
theorem seen_cell {w : World} {g : Nat} {v : Value} (h : w.cell? ⟨g, 0, none⟩ = some v) : SeenC w (rng (some ⟨g, 0, none⟩) [v]) :=
 ⟨rfl, fun j u hj => by
  cases j with
  | zero =>
   simp only [List.getElem?_cons_zero, Option.some.injEq] at hj
   subst hj
   exact ⟨_, rfl, by rw [addr_add, Nat.zero_add]; exact h⟩
  | succ j => simp at hj, fun k hk => by
  obtain ⟨_, a, ha, rfl⟩ := hk
  cases ha
  exact cell_lt h⟩
theorem var_cells {P : Program} {w : World} {n : String} {g : Nat} {cs : Array Value} (hg : P.globalNamed n = some g) (h : w.var? P n = some cs) : ∃ t z, w.heap[g]? = some (.cells cs t z) := by
 unfold World.var? at h
 rw [hg] at h
 simp only [Option.bind_some] at h
 split at h
 ·rename_i c t z hc
  simp only [Option.some.injEq] at h
  subst h
  exact ⟨_, _, hc⟩
 ·cases h
end Go.Sx
namespace Go.Sx
open Go Chunk
open Go.ChangeShapes Go.WideShapes Go.RowKit
section
variable {H : Type} {enc : TypeId × Value → H} {P : Program} {w : World} {base b0 : Nat} {spare : Nat → Bool} {held : Bool} {r : Reach}
def Light (P : Program) (t : TypeId) (d : DataW H) : Prop := ∀ n ∈ d.weights P t, n ≤ reachBytes
def DecW (enc : TypeId × Value → H) (P : Program) (w : World) (base : Nat) (spare : Nat → Bool) (held : Bool) (t : TypeId) {α : Type} (cells : α → List Value) (ok : α → Prop) (seen : α → List Chunk) : Prop :=
 ∀ (fuel : Nat) (cs : List Value) (x : DataW H × List MemPlace), DataW.trod enc P w base spare held fuel t cs = some x → Light P t x.1 → ∃ a : α, cs = cells a ∧ ok a ∧ Seen w (seen a)
theorem decW_of {t : TypeId} {α : Type} {cells : α → List Value} {ok : α → Prop} {seen : α → List Chunk} (h : Dec enc P w base spare held t cells ok seen) : DecW enc P w base spare held t cells ok seen := fun fuel cs x hx _ => h fuel cs x hx
theorem decW_string {t : TypeId} (ht : P.underlying t = some .string) : DecW enc P w base spare held t (α := ByteArray) (fun s => [.string s]) (fun s => s.size ≤ maxLen) (fun _ => []) := decW_of (dec_string ht)
theorem DecW.iso {t : TypeId} {α β : Type} {c1 : α → List Value} {ok1 : α → Prop} {s1 : α → List Chunk} {c2 : β → List Value} {ok2 : β → Prop} {s2 : β → List Chunk} (g : α → β) (hc : ∀ a, c1 a = c2 (g a)) (ho : ∀ a, ok1 a → ok2 (g a)) (hs : ∀ a, s1 a = s2 (g a)) (h : DecW enc P w base spare held t c1 ok1 s1) : DecW enc P w base spare held t c2 ok2 s2 := fun fuel cs x hx hl => by
 obtain ⟨a, h1, h2, h3⟩ := h fuel cs x hx hl
 exact ⟨g a, by rw [h1, hc], ho a h2, by rw [← hs]; exact h3⟩
theorem weightsAll_mem {e : TypeId} : ∀ {l : List (DataW H)} {d : DataW H}, d ∈ l → ∀ n ∈ d.weights P e, n ∈ DataW.weightsAll P e l
 | [], d, h, n, hn => by simp at h
 | y :: l, d, h, n, hn => by
  simp only [DataW.weightsAll, List.mem_append]
  rcases List.mem_cons.1 h with rfl | h
  ·exact .inl hn
  ·exact .inr (weightsAll_mem h n hn)
theorem weightsEach_mem {fs : List Field} : ∀ {l : List (DataW H)} {i : Nat} {f : Field} {d : DataW H}, fs[i]? = some f → l[i]? = some d → ∀ n ∈ d.weights P f.type, n ∈ DataW.weightsEach P (fs.map (·.type)) l := fun {l i f d} hf hd n hn =>
 DataW.weights_mem_each (j := i) (t := f.type) (by simp [hf]) hd n hn
theorem decW_slice {t e : TypeId} {α : Type} {cells : α → List Value} {ok : α → Prop} {seen : α → List Chunk} {sz bz : Nat} (ht : P.underlying t = some (.slice e)) (hsz : P.cellsOf e = sz) (hbz : P.bytesOf e = bz) (hpos : 0 < sz) (hc : ∀ a, (cells a).length = sz) (hd : DecW enc P w base spare held e cells ok seen) :
  DecW enc P w base spare held t (fun x : Option Addr × Nat × List α => [.slice x.1 x.2.2.length x.2.1]) (fun x => (x.2.2.length ≤ x.2.1 ∧ x.2.1 ≤ maxLen ∧ x.2.2.length * bz ≤ reachBytes) ∧ ∀ a ∈ x.2.2, ok a) (fun x => rng x.1 (x.2.2.flatMap cells) :: x.2.2.flatMap seen) := fun fuel cs x h hlight => by
 have hlt := DataW.trod_lt fuel t cs x h
 rcases DataW.trod_slice ht h with ⟨rfl, _⟩ | ⟨a, len, cap, elems, rest, n, _, rfl, rfl, hb, hl, hm, hlen, hel, hsp, hns⟩
 ·exact ⟨(none, 0, []), rfl, ⟨⟨Nat.le_refl _, by unfold maxLen; exact Nat.zero_le _, by simp⟩, by simp⟩, ⟨rfl, fun j v hj => by simp at hj, fun k hk => absurd rfl hk.1⟩, trivial⟩
 ·have hw0 : ∀ n ∈ DataW.weights P t (.slice (elems.map (·.1)) (rest.map (·.1)) : DataW H), n ≤ reachBytes := hlight
  have hw1 : (elems.length + rest.length) * bz ≤ reachBytes := hw0 _ (by simp [DataW.weights, ht, hbz])
  have each : ∀ i, i < len → ∃ b : α, (∀ j v, (cells b)[j]? = some v → w.cell? (a.add (i * sz + j)) = some v) ∧ ok b ∧ Seen w (seen b) := by
   intro i hi
   have h1 := hel i hi
   rw [hsz, List.getElem?_eq_getElem (by omega), Option.bind_eq_some_iff] at h1
   obtain ⟨cs', hcs, hy⟩ := h1
   obtain ⟨b, rfl, hok, hseen⟩ := hd n cs' _ hy (fun n hn => hw0 n (by
    simp only [DataW.weights, ht, List.mem_cons, List.mem_append]
    exact .inr (.inl (weightsAll_mem (List.mem_map.2 ⟨elems[i], List.getElem_mem _, rfl⟩) n hn))))
   refine ⟨b, fun j v hj => ?_, hok, hseen⟩
   obtain ⟨_, h2, h3⟩ := World.cells?_some hcs
   have hj' := (List.getElem?_eq_some_iff.1 hj).1
   have := h3 j (by rw [hc] at hj'; omega)
   rw [add_add] at this
   rw [this, hj]
  have key : ∀ m, m ≤ len → ∃ l : List α, l.length = m ∧ (∀ b ∈ l, ok b ∧ Seen w (seen b)) ∧ ∀ j v, (l.flatMap cells)[j]? = some v → w.cell? (a.add j) = some v := by
   intro m
   induction m with
   | zero => exact fun _ => ⟨[], rfl, by simp, by simp⟩
   | succ m ih =>
    intro hm'
    obtain ⟨l, hl1, hl2, hl3⟩ := ih (by omega)
    obtain ⟨b, hb1, hb2, hb3⟩ := each m (by omega)
    refine ⟨l ++ [b], by simp [hl1], ?_, ?_⟩
    ·intro c hc'
     rcases List.mem_append.1 hc' with hc' | hc'
     ·exact hl2 c hc'
     ·simp only [List.mem_singleton] at hc'
      subst hc'
      exact ⟨hb2, hb3⟩
    ·intro j v hj
     rw [List.flatMap_append, List.flatMap_cons, List.flatMap_nil, List.append_nil] at hj
     have hfl := flat_len hc l
     rw [hl1] at hfl
     by_cases hjl : j < m * sz
     ·rw [List.getElem?_append_left (by omega)] at hj
      exact hl3 j v hj
     ·rw [List.getElem?_append_right (by omega), hfl] at hj
      have := hb1 (j - m * sz) v hj
      rwa [show m * sz + (j - m * sz) = j by omega] at this
  obtain ⟨l, hl1, hl2, hl3⟩ := key len (Nat.le_refl _)
  refine ⟨(some a, cap, l), (by show [Value.slice (some a) len cap] = [.slice (some a) l.length cap]; rw [hl1]), ⟨⟨by dsimp only; omega, hm, ?_⟩, fun b hb' => (hl2 b hb').1⟩, ⟨rfl, fun j v hj => ⟨a, rfl, hl3 j v hj⟩, fun k hk => ?_⟩, Seen.flat (fun b hb' => (hl2 b hb').2)⟩
  ·dsimp only
   rw [hl1, ← hlen]
   exact Nat.le_trans (Nat.mul_le_mul_right _ (Nat.le_add_right _ _)) hw1
  ·obtain ⟨hne, a', ha, rfl⟩ := hk
   cases ha
   have hfl := flat_len hc l
   have hl0 : 0 < l.length := by
    rcases Nat.eq_zero_or_pos l.length with h0 | h0
    ·rw [List.length_eq_zero_iff.1 h0] at hne; simp at hne
    ·exact h0
   have := hlt (.cell a.block (a.off + 0)) (by
    refine List.mem_append.2 (.inl ?_)
    unfold MemPlace.row
    refine List.mem_map.2 ⟨0, ?_, rfl⟩
    rw [List.mem_range, hsz]
    exact Nat.mul_pos (by omega) hpos)
   exact this
def DecFW (enc : TypeId × Value → H) (P : Program) (w : World) (base : Nat) (spare : Nat → Bool) (held : Bool) (fs : List Field) (o sz : Nat) {α : Type} (cells : α → List Value) (ok : α → Prop) (seen : α → List Chunk) : Prop :=
 ∀ (n : Nat) (cs : List Value), (∀ f ∈ fs, ∃ y, DataW.trod enc P w base spare held n f.type ((cs.drop f.offset).take (P.cellsOf f.type)) = some y ∧ Light P f.type y.1) → ∃ a : α, (cs.drop o).take sz = cells a ∧ ok a ∧ Seen w (seen a)
theorem decFW_nil {o : Nat} : DecFW enc P w base spare held [] o 0 (α := Unit) (fun _ => []) (fun _ => True) (fun _ => []) := fun n cs _ => ⟨(), by simp, trivial, trivial⟩
theorem decFW_cons {f : Field} {fs : List Field} {o k sz : Nat} {α β : Type} {c1 : α → List Value} {ok1 : α → Prop} {s1 : α → List Chunk} {c2 : β → List Value} {ok2 : β → Prop} {s2 : β → List Chunk} (ho : f.offset = o) (hk : P.cellsOf f.type = k)
  (h1 : DecW enc P w base spare held f.type c1 ok1 s1) (h2 : DecFW enc P w base spare held fs (o + k) sz c2 ok2 s2) : DecFW enc P w base spare held (f :: fs) o (k + sz) (fun x : α × β => c1 x.1 ++ c2 x.2) (fun x => ok1 x.1 ∧ ok2 x.2) (fun x => s1 x.1 ++ s2 x.2) := fun n cs h => by
 obtain ⟨y, hy, hyl⟩ := h f (by simp)
 rw [ho, hk] at hy
 obtain ⟨a, ha, hoa, hsa⟩ := h1 n _ _ hy hyl
 obtain ⟨b, hb, hob, hsb⟩ := h2 n cs (fun g hg => h g (by simp [hg]))
 refine ⟨(a, b), ?_, ⟨hoa, hob⟩, hsa.append hsb⟩
 show _ = c1 a ++ c2 b
 rw [← ha, ← hb, List.take_add, List.drop_drop]
theorem decW_struct {t : TypeId} {fs : Array Field} {sz : Nat} {α : Type} {cells : α → List Value} {ok : α → Prop} {seen : α → List Chunk} (ht : P.underlying t = some (.struct fs)) (hsz : P.cellsOf t = sz) (h : DecFW enc P w base spare held fs.toList 0 sz cells ok seen) : DecW enc P w base spare held t cells ok seen := fun fuel cs x hx hlight => by
 obtain ⟨xs, n, _, rfl, hl, hlen, hf⟩ := DataW.trod_struct ht hx
 have hw0 : ∀ n ∈ DataW.weights P t (.agg (xs.map (·.1)) : DataW H), n ≤ reachBytes := hlight
 obtain ⟨a, ha, h1, h2⟩ := h n cs (fun f hf' => by
  obtain ⟨i, hi⟩ := List.mem_iff_getElem?.1 hf'
  have hi' : fs[i]? = some f := by simpa using hi
  have := hf i f hi'
  have hlt : i < xs.length := by rw [hlen]; exact (Array.getElem?_eq_some_iff.1 hi').1
  refine ⟨xs[i], by rw [this]; simp [hlt], fun n hn => hw0 n ?_⟩
  simp only [DataW.weights, ht]
  exact weightsEach_mem (i := i) hi (by simp [hlt]) n hn)
 refine ⟨a, ?_, h1, h2⟩
 rw [List.drop_zero, List.take_of_length_le (by omega)] at ha
 exact ha
theorem light_arg {ts : List TypeId} {ds : List (DataW H)} (h : (DataW.weightsEach P ts ds).all (· ≤ reachBytes) = true) {j : Nat} {t : TypeId} {d : DataW H} (ht : ts[j]? = some t) (hd : ds[j]? = some d) : Light P t d := fun n hn => by
 have := List.all_eq_true.1 h n (DataW.weights_mem_each ht hd n hn)
 simpa using this
theorem arg_sliceW {t e : TypeId} {α : Type} {cells : α → List Value} {ok : α → Prop} {seen : α → List Chunk} {sz bz : Nat} {v : Value} {d : DataW H} {ps : List MemPlace} (ht : P.underlying t = some (.slice e)) (hsz : P.cellsOf e = sz) (hbz : P.bytesOf e = bz) (hpos : 0 < sz) (hc : ∀ a, (cells a).length = sz) (hd : DecW enc P w base spare held e cells ok seen)
  (hv : Value.okWide P w r b0 t v) (h : DataW.Trod enc P w base spare held t v d ps) (hl : Light P t d) :
  ∃ (ao : Option Addr) (cap : Nat) (l : List α), v = .slice ao l.length cap ∧ l.length ≤ cap ∧ cap ≤ maxLen ∧ l.length * bz ≤ reachBytes ∧ (∀ a ∈ l, ok a) ∧ Seen w (rng ao (l.flatMap cells) :: l.flatMap seen) := by
 obtain ⟨a0, len, cap, rfl⟩ := okWide_slice ht hv
 obtain ⟨fuel, hf⟩ := h
 obtain ⟨⟨ao, cap', l⟩, hcs, ⟨⟨h1, h2, h3⟩, h4⟩, h5⟩ := decW_slice ht hsz hbz hpos hc hd fuel _ _ hf hl
 simp [Value.cells] at hcs
 obtain ⟨rfl, rfl, rfl⟩ := hcs
 exact ⟨a0, cap, l, rfl, h1, h2, h3, h4, h5⟩
theorem arg_structW {t : TypeId} {fs : Array Field} {α : Type} {cells : α → List Value} {ok : α → Prop} {seen : α → List Chunk} {v : Value} {d : DataW H} {ps : List MemPlace} (ht : P.underlying t = some (.struct fs)) (hd : DecW enc P w base spare held t cells ok seen)
  (hv : Value.okWide P w r b0 t v) (h : DataW.Trod enc P w base spare held t v d ps) (hl : Light P t d) :
  ∃ a : α, v = .agg (cells a).toArray ∧ ok a ∧ Seen w (seen a) := by
 obtain ⟨cs, rfl, _⟩ := okWide_struct ht hv
 obtain ⟨fuel, hf⟩ := h
 obtain ⟨a, hcs, h1, h2⟩ := hd fuel _ _ hf hl
 refine ⟨a, ?_, h1, h2⟩
 rw [← hcs]
 simp [Value.cells]
theorem seen_see {cs : List Chunk} (h : Seen w cs) : Seen w [seeL cs] :=
 ⟨⟨rfl, fun c hc => (h.mem c hc).2.1, fun k ⟨c, hc, hk⟩ => (h.mem c hc).2.2 k hk⟩, trivial⟩
end
end Go.Sx
namespace Go.Proofs.YtkolmklfgbimoaaGreatDoor
open Go Go.Sx Go.Sx.Chunk
set_option maxRecDepth 100000
def laidL : List (String × DataW Unit) := [("unicode.White_Space", Rows.laid_unicode_White_Space), ("strings.asciiSpace", Rows.laid_strings_asciiSpace)]
theorem spc_eq : (Rows.laid_strings_asciiSpace : DataW Unit) = Lib.tabData .u8 Lib.asciiSpaceTab := by kernel_rfl
theorem glb_seen {w : World} {n : String} {g : Nat} {k : IntKind} {zs : List Int} (hg : Tryz.prog.globalNamed n = some g) (h : Lib.TabIs Tryz.prog w n k zs) : SeenC w (glb g (zs.map fun z => Value.int k z)) := by
 obtain ⟨t, z, hb⟩ := var_cells hg h
 exact ⟨rfl, ⟨t, z, hb⟩, fun j hj => by
  have : j = g := hj
  rw [this]
  exact (Array.getElem?_eq_some_iff.1 hb).1⟩
theorem laid_plain {W : World} (h : laidMetH Tryz.prog laidL W) : laidMet Tryz.prog laidL W := by
 rw [MakeChecks.laidMetH_plain _ _ _ (by kernel_rfl)] at h
 exact h
theorem va_seen {W : World} (hL : laidMetH Tryz.prog laidL W) (hsh : W.ShapedOpen Tryz.prog) : ∃ m ev ev2 : Unit, True ∧ True ∧ Seen W [Cm.spaceV] := by
 have h0 := laid_plain hL
 have h7 := laidMet.tail h0
 rw [spc_eq] at h7
 have t0 := Lib.tabIs_of_head (g := 1) (t := 271) (e := 5) (n := 256) (by kernel_rfl) (by kernel_rfl) (by kernel_rfl) (by kernel_rfl) (by kernel_rfl) (by kernel_rfl) h7
 exact ⟨(), (), (), trivial, trivial, glb_seen (by kernel_rfl) t0, trivial⟩
end Go.Proofs.YtkolmklfgbimoaaGreatDoor

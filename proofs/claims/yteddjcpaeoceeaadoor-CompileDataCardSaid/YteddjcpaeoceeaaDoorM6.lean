/- Texts of the proof, in their order: Ckt, Cl1, Cl2, Cl3, cSp2, Cb2, Cl4, cSp3, cSp4, cSp5, cSn10, Cd1, Cd2, Nv1, Cl5, SxT, SxO, Dr2. -/
import Derived.Test.YteddjcpaeoceeaaDoorM5
import Derived.Test.YteddjcpaeoceeaaDoorM4
import Derived.Test.YteddjcpaeoceeaaDoorM1
import Derived.Test.YteddjcpaeoceeaaDoorM3
import Derived.Test.YteddjcpaeoceeaaDoorM2
import Derived.HandedShaped
import Derived.SizedLaws
import Derived.Test.YteddjcpaeoceeaaDoorRows
import Derived.Stop.LaidErr
import Derived.Lib.LaidTab
import Derived.MakeChecks
import Derived.LaidLaws
set_option linter.unusedVariables false
set_option linter.unusedSimpArgs false
namespace Go.Proofs.YteddjcpaeoceeaaDoor.Cm
open Go Go.Sx Go.Sx.Chunk
set_option linter.unusedVariables false
set_option linter.unusedSimpArgs false
variable {TA : Addr} {L : List (Sc.Tk × Nat)}
theorem dx_program (N : Nat) (s : CS) (hg : GD s) : wt (mProgram N s) ≤ wt s + 10 := by
  rw [program_eq]
  have hl : ∀ q, wt (mLast q) ≤ wt q := fun q => by
    unfold mLast
    dsimp only
    have h := ((ex_must [101, 110, 100] q).tr (k := 0) (ex_must [46] _))
    split
    · have := (h.tr (k := 0) (ex_stop 2 (mHere (mMust [46] (mMust [101, 110, 100] q))) _)).w; omega
    · have := h.w; omega
  split
  · rename_i hm
    have d1 := ((ex_sees hm).dx.tr (k := -99) (dx_head _)).tr (k := -97) (ex_jump ⟨17, 0, 0, 0, 0⟩ _).dx
    obtain ⟨g, w, ln⟩ := dx_decls N (mJump ⟨17, 0, 0, 0, 0⟩ (mHead (mTail s))).toks.length _ (d1.g hg)
    have w1 := d1.w
    refine Int.le_trans (hl _) ?_
    unfold mBody
    have d2 := ((((ex_must [98, 101, 103, 105, 110] (mDecls N (mJump ⟨17, 0, 0, 0, 0⟩ (mHead (mTail s))).toks.length (mJump ⟨17, 0, 0, 0, 0⟩ (mHead (mTail s))))).tr (k := 0) (ex_land ((mHead (mTail s)).code.length : Int) _)).tr (k := 2) (ex_mark ⟨10, 29, 0, 0, 0⟩ 4 0 _)).tr (k := 2) (ex_stmts N _)).tr (k := 3) (ex_put ⟨20, 0, 0, 0, 0⟩ _)
    have := d2.w
    omega
  · have d1 := (ex_must [109, 111, 100, 117, 108, 101] s).dx.tr (k := 1) (dx_head _)
    obtain ⟨g, w, ln⟩ := dx_decls N (mHead (mMust [109, 111, 100, 117, 108, 101] s)).toks.length _ (d1.g hg)
    have w1 := d1.w
    have := hl (mDecls N (mHead (mMust [109, 111, 100, 117, 108, 101] s)).toks.length (mHead (mMust [109, 111, 100, 117, 108, 101] s)))
    omega
def ob0 : Ob6 := ⟨.empty, [], 0, [], [], []⟩
/-- The object of a text; of one that is refused: one that is empty. -/
def compO (s : List UInt8) : Ob6 := (compF s).1.getD ob0
theorem comp_len (s : List UInt8) : (compO s).code.length ≤ 4096 := by
  unfold compO compF
  generalize Sc.scanD 0 s = r
  obtain ⟨l, pl, e⟩ := r
  dsimp only
  by_cases he : e ≠ 0
  · simp only [if_pos he]; exact Nat.zero_le _
  · simp only [if_neg he]
    generalize mProgram (l.length + 1) (cs0 l (s.length : Int)) = q
    by_cases hA : q.e = 0 ∧ q.code.length > 4096
    · rw [if_pos hA, if_pos (stop_e _ _ _ (by decide))]; exact Nat.zero_le _
    · rw [if_neg hA]
      by_cases hB : q.e ≠ 0
      · rw [if_pos hB]; exact Nat.zero_le _
      · rw [if_neg hB]
        show q.code.length ≤ 4096
        have hB2 : q.e = 0 := by simpa using hB
        have : ¬ q.code.length > 4096 := fun h => hA ⟨hB2, h⟩
        omega
def csX (s : CS) (x : Ad) (oc : Option Addr) (on : Nat) (ok : Nat) (pc : Option Addr) (pn pk : Nat) : List Value := [.slice x.ta s.toks.length x.tc, .int .i64 s.en, .slice x.ca s.code.length x.cc, .slice x.pa s.pats.length x.pc, .int .i64 (s.taken : Int), .slice x.na s.ents.length x.nc, .slice x.ba s.begs.length x.bc, .string s.name, .slice oc on ok, .int .i64 s.data, .slice x.ea s.exps.length x.ec, .slice x.ia s.imps.length x.ic, .slice pc pn pk, .int .i64 s.e, .int .i64 s.bad, .int .i64 (s.fac : Int), .int .i64 (s.nest : Int)]
theorem stopX (c : Nat) (s : CS) (x : Ad) (e pl : Int) (oc : Option Addr) (on ok : Nat) (pc : Option Addr) (pn pk : Nat) : FnC (α := Unit) Tryd.prog 13 [cP c, .int .i64 e, .int .i64 pl] [blk c (csX s x oc on ok pc pn pk) 51] [] (fun _ => .tuple #[]) (fun _ => [blk c (csX (mStop e pl s) { x with ta := none, tc := 0 } oc on ok pc pn pk) 51]) (fun _ => True) := by
  unfold csX cP
  refine fn_intro Tryd.func13 Tryd.ntmps13 rfl rfl rfl (fun w0 => ?_)
  try simp only [List.cons_append, List.nil_append, List.append_nil]
  by_cases h : s.e = 0
  · skip
    refine rr ?_
    exact en () trivial (hp := by unfold mStop; simp only [if_pos h]; (repeat (first | exact Has.nil | (apply Has.cons; focus ((repeat (first | exact pick_here | apply pick_there)); done)) | apply Has.nrow | apply Has.gen0)))
  · skip
    refine rr ?_
    exact en () trivial (hp := by unfold mStop; simp only [if_neg h]; (repeat (first | exact Has.nil | (apply Has.cons; focus ((repeat (first | exact pick_here | apply pick_there)); done)) | apply Has.nrow | apply Has.gen0)))
/-- Where an object's parts lie. -/
structure Ax where
  mk ::
  (ca : Option Addr) (cc : Nat) (pa : Option Addr) (pc : Nat) (ea : Option Addr) (ec : Nat) (ia : Option Addr) (ic : Nat)
def o6V (o : Ob6) (x : Ax) : List Value := [.string o.name, .slice x.ca o.code.length x.cc, .int .i64 o.data, .slice x.ea o.exps.length x.ec, .slice x.ia o.imps.length x.ic, .slice x.pa o.pats.length x.pc]
def o6G (o : Ob6) (x : Ax) : Value := .agg #[.string o.name, .slice x.ca o.code.length x.cc, .int .i64 o.data, .slice x.ea o.exps.length x.ec, .slice x.ia o.imps.length x.ic, .slice x.pa o.pats.length x.pc]
def o6H (o : Ob6) (x : Ax) : List Chunk := [row x.ca x.cc 33 5 o.code.length (insC o.code), row x.pa x.pc 75 3 o.pats.length (paC o.pats), row x.ea x.ec 94 2 o.exps.length (syC o.exps), row x.ia x.ic 9 1 o.imps.length (strC o.imps)]
set_option maxHeartbeats 16000000 in
theorem compileC (s : ByteArray) (hs : s.size ≤ 1000000) : FnC Tryd.prog 7 [.string s] [] [spaceV] (fun x : Ax => .tuple #[o6G (compO (Sc.txt s)) x, .int .i64 (compF (Sc.txt s)).2.1, .int .i64 (compF (Sc.txt s)).2.2]) (fun x : Ax => o6H (compO (Sc.txt s)) x) (fun _ => True) := by
  have h1 := Sc.scanC s hs
  have hlen := Sc.scanD_len _ 0 (Sc.txt s) (Nat.le_refl _)
  have hok := Sc.scanD_ok _ 0 (Sc.txt s) (Nat.le_refl _)
  rw [Sc.txt_len] at hlen
  unfold compO compF
  rw [Sc.txt_len]
  generalize Sc.scanD 0 (Sc.txt s) = r at *
  obtain ⟨l, pl, e⟩ := r
  unfold Sc.scanV at h1
  dsimp only at *
  by_cases he : e ≠ 0
  · simp only [if_pos he]
    unfold o6G o6H ob0
    refine fn_intro Tryd.func7 Tryd.ntmps7 rfl rfl rfl (fun w0 => ?_)
    try simp only [List.cons_append, List.nil_append, List.append_nil]
    refine rr ?_
    intro b2 _
    refine rr ?_
    refine cl (h1) ?_
    intro x _
    try simp only [List.cons_append, List.nil_append, List.append_nil]
    refine rr ?_
    exact en ⟨none, 0, none, 0, none, 0, none, 0⟩ trivial
  · simp only [if_neg he]
    refine fn_intro Tryd.func7 Tryd.ntmps7 rfl rfl rfl (fun w0 => ?_)
    try simp only [List.cons_append, List.nil_append, List.append_nil]
    refine rr ?_
    intro b2 _
    refine rr ?_
    refine cl (h1) ?_
    intro x _
    try simp only [List.cons_append, List.nil_append, List.append_nil]
    obtain ⟨ta, tc⟩ := x
    dsimp only
    refine rr ?_
    intro c _
    refine rr ?_
    have hg0 : GD (cs0 l (s.size : Int)) := ⟨Nat.zero_le _, by simp [cs0], fun t ht => ⟨(hok t ht).num.1, (hok t ht).num.2⟩, by simp [cs0]⟩
    have hw0 : wt (cs0 l (s.size : Int)) ≤ 100000000 := by simp [wt, cs0]; omega
    have hwP := dx_program (l.length + 1) _ hg0
    refine w_use (fun w hw => (hw.pick 1 rfl).row_cap) fun hcap => ?_
    have h2 := fun TA hx => programC (TA := TA) (L := l) c (l.length + 1) (cs0 l (s.size : Int)) ⟨ta, tc, none, 0, none, 0, none, 0, none, 0, none, 0, none, 0⟩ (by simp [cs0]) hg0 (by omega) (by simp [cs0]) hx
    generalize mProgram (l.length + 1) (cs0 l (s.size : Int)) = sP at *
    have hcn := wt_code (Int.le_refl (wt sP))
    have hpn := wt_pats (Int.le_refl (wt sP))
    have h3 := fun y => codeC c sP y (by omega)
    have h4 := fun y => patchesC c sP y (by omega)
    have h5 := fun y e pl oc on ok pc pn pk => stopX c sP y e pl oc on ok pc pn pk
    unfold tkB at h2
    try unfold cmH csC at h2
    try unfold cmH at h2
    try unfold cP at h2
    try unfold bP at h2
    try unfold tP at h2
    try unfold inG at h2
    try unfold thG at h2
    try unfold clo at h2
    try unfold cmH csC at h3
    try unfold cmH at h3
    try unfold cP at h3
    try unfold bP at h3
    try unfold tP at h3
    try unfold inG at h3
    try unfold thG at h3
    try unfold clo at h3
    try unfold cmH csC at h4
    try unfold cmH at h4
    try unfold cP at h4
    try unfold bP at h4
    try unfold tP at h4
    try unfold inG at h4
    try unfold thG at h4
    try unfold clo at h4
    unfold csX at h5
    unfold o6G o6H
    by_cases hA : sP.e = 0 ∧ sP.code.length > 4096
    · rw [if_pos hA]
      obtain ⟨hA1, hA2⟩ := hA
      rw [if_pos (show (mStop 4 (s.size : Int) sP).e ≠ 0 from stop_e _ _ _ (by decide))]
      have hst : (mStop 4 (s.size : Int) sP).e = 4 ∧ (mStop 4 (s.size : Int) sP).bad = (s.size : Int) := by simp [mStop, hA1]
      rcases l with _ | ⟨t, l⟩
      · skip
        refine cl (h2 ⟨0, 0, none⟩ (OkX.none rfl)) ?_
        intro y hy
        try simp only [List.cons_append, List.nil_append, List.append_nil]
        refine rr ?_
        refine dx [0, 1, 2, 3, 4, 6, 7, 8, 5, 9, 10, 11, 12, 13, 14, 15, 16, 17] [] [] ?_
        refine rr ?_
        refine cle (h3 y) ?_
        intro z _
        try simp only [List.cons_append, List.nil_append, List.append_nil]
        refine rr ?_
        refine cle (h4 y) ?_
        intro u _
        try simp only [List.cons_append, List.nil_append, List.append_nil]
        refine rr ?_
        refine cl (h5 y 4 (s.size : Int) z.1 sP.code.length z.2 u.1 sP.pats.length u.2) ?_
        intro _ _
        try simp only [List.cons_append, List.nil_append, List.append_nil]
        refine rr ?_
        refine dr [0, 1, 2, 3, 4, 5, 6, 7, 8, 9, 10, 11] [4, 8] [0] ?_
        refine rr ?_
        exact en ⟨none, 0, none, 0, none, 0, none, 0⟩ trivial
      · skip
        refine w_use (fun w hw => (hw.pick 1 rfl).row_some (by first | omega | decide | (simp; done) | (simp <;> omega))) ?_
        rintro ⟨g1, rfl⟩
        refine cl (h2 ⟨g1, 0, none⟩ ⟨fun _ => ⟨0, rfl, rfl⟩, hcap⟩) ?_
        intro y hy
        try simp only [List.cons_append, List.nil_append, List.append_nil]
        refine rr ?_
        refine dx [0, 1, 2, 3, 4, 6, 7, 8, 5, 9, 10, 11, 12, 13, 14, 15, 16, 17] [] [] ?_
        refine rr ?_
        refine cle (h3 y) ?_
        intro z _
        try simp only [List.cons_append, List.nil_append, List.append_nil]
        refine rr ?_
        refine cle (h4 y) ?_
        intro u _
        try simp only [List.cons_append, List.nil_append, List.append_nil]
        refine rr ?_
        refine cl (h5 y 4 (s.size : Int) z.1 sP.code.length z.2 u.1 sP.pats.length u.2) ?_
        intro _ _
        try simp only [List.cons_append, List.nil_append, List.append_nil]
        refine rr ?_
        refine dr [0, 1, 2, 3, 4, 5, 6, 7, 8, 9, 10, 11] [4, 8] [0] ?_
        refine rr ?_
        exact en ⟨none, 0, none, 0, none, 0, none, 0⟩ trivial
    · rw [if_neg hA]
      by_cases hB : sP.e ≠ 0
      · rw [if_pos hB]
        rcases l with _ | ⟨t, l⟩
        · skip
          refine cl (h2 ⟨0, 0, none⟩ (OkX.none rfl)) ?_
          intro y hy
          try simp only [List.cons_append, List.nil_append, List.append_nil]
          refine rr ?_
          refine dx [0, 1, 2, 3, 4, 6, 7, 8, 5, 9, 10, 11, 12, 13, 14, 15, 16, 17] [] [] ?_
          refine rr ?_
          refine cle (h3 y) ?_
          intro z _
          try simp only [List.cons_append, List.nil_append, List.append_nil]
          refine rr ?_
          refine cle (h4 y) ?_
          intro u _
          try simp only [List.cons_append, List.nil_append, List.append_nil]
          refine rr ?_
          refine dr [0, 1, 2, 3, 4, 5, 6, 7, 8, 9, 10, 11] [4, 8] [0] ?_
          refine rr ?_
          exact en ⟨none, 0, none, 0, none, 0, none, 0⟩ trivial
        · skip
          refine w_use (fun w hw => (hw.pick 1 rfl).row_some (by first | omega | decide | (simp; done) | (simp <;> omega))) ?_
          rintro ⟨g1, rfl⟩
          refine cl (h2 ⟨g1, 0, none⟩ ⟨fun _ => ⟨0, rfl, rfl⟩, hcap⟩) ?_
          intro y hy
          try simp only [List.cons_append, List.nil_append, List.append_nil]
          refine rr ?_
          refine dx [0, 1, 2, 3, 4, 6, 7, 8, 5, 9, 10, 11, 12, 13, 14, 15, 16, 17] [] [] ?_
          refine rr ?_
          refine cle (h3 y) ?_
          intro z _
          try simp only [List.cons_append, List.nil_append, List.append_nil]
          refine rr ?_
          refine cle (h4 y) ?_
          intro u _
          try simp only [List.cons_append, List.nil_append, List.append_nil]
          refine rr ?_
          refine dr [0, 1, 2, 3, 4, 5, 6, 7, 8, 9, 10, 11] [4, 8] [0] ?_
          refine rr ?_
          exact en ⟨none, 0, none, 0, none, 0, none, 0⟩ trivial
      · rw [if_neg hB]
        have hB2 : sP.e = 0 := by simpa using hB
        have hC2 : ¬ (sP.code.length : Int) > 4096 := fun h => hA ⟨hB2, by omega⟩
        rcases l with _ | ⟨t, l⟩
        · skip
          refine cl (h2 ⟨0, 0, none⟩ (OkX.none rfl)) ?_
          intro y hy
          try simp only [List.cons_append, List.nil_append, List.append_nil]
          refine rr ?_
          refine dx [0, 1, 2, 3, 4, 6, 7, 8, 5, 9, 10, 11, 12, 13, 14, 15, 16, 17] [] [] ?_
          refine rr ?_
          refine cle (h3 y) ?_
          intro z _
          try simp only [List.cons_append, List.nil_append, List.append_nil]
          refine rr ?_
          refine cle (h4 y) ?_
          intro u _
          try simp only [List.cons_append, List.nil_append, List.append_nil]
          refine rr ?_
          exact en ⟨z.1, z.2, u.1, u.2, y.ea, y.ec, y.ia, y.ic⟩ trivial
        · skip
          refine w_use (fun w hw => (hw.pick 1 rfl).row_some (by first | omega | decide | (simp; done) | (simp <;> omega))) ?_
          rintro ⟨g1, rfl⟩
          refine cl (h2 ⟨g1, 0, none⟩ ⟨fun _ => ⟨0, rfl, rfl⟩, hcap⟩) ?_
          intro y hy
          try simp only [List.cons_append, List.nil_append, List.append_nil]
          refine rr ?_
          refine dx [0, 1, 2, 3, 4, 6, 7, 8, 5, 9, 10, 11, 12, 13, 14, 15, 16, 17] [] [] ?_
          refine rr ?_
          refine cle (h3 y) ?_
          intro z _
          try simp only [List.cons_append, List.nil_append, List.append_nil]
          refine rr ?_
          refine cle (h4 y) ?_
          intro u _
          try simp only [List.cons_append, List.nil_append, List.append_nil]
          refine rr ?_
          exact en ⟨z.1, z.2, u.1, u.2, y.ea, y.ec, y.ia, y.ic⟩ trivial
end Go.Proofs.YteddjcpaeoceeaaDoor.Cm
namespace Go.Proofs.YteddjcpaeoceeaaDoor.Cm
open Go
set_option linter.unusedVariables false
set_option linter.unusedSimpArgs false
def awT1 : List UInt8 := [112, 114, 111, 103, 114, 97, 109, 32, 97, 59, 32, 98, 101, 103, 105, 110, 32, 119, 114, 105, 116, 101, 32, 49, 43, 50, 32, 101, 110, 100, 46]
def awT2 : List UInt8 := [112, 114, 111, 103, 114, 97, 109, 32, 97, 59, 32, 98, 101, 103, 105, 110, 32, 120, 32, 58, 61, 32, 49, 32, 101, 110, 100, 46]
theorem aw1F : (compF awT1).2 = (0, 0) ∧ ((compF awT1).1.map fun o => (o.name, o.code.length)) = some (Sc.bs [97], 8) := by decide +kernel
theorem aw2F : compF awT2 = (none, 17, 5) := by decide +kernel
def nsA : List UInt8 := [112, 114, 111, 103, 114, 97, 109, 32, 97, 59, 32, 98, 101, 103, 105, 110, 32, 119, 114, 105, 116, 101, 32]
def nsB : List UInt8 := [32, 101, 110, 100, 46]
def nsC : List UInt8 := [112, 114, 111, 103, 114, 97, 109, 32, 97, 59, 32, 98, 101, 103, 105, 110, 32]
def nsW : List UInt8 := [119, 114, 105, 116, 101, 32, 49]
def rep (l : List UInt8) : Nat → List UInt8
  | 0 => []
  | n + 1 => rep l n ++ l
def nsIf : List UInt8 := [105, 102, 32, 49, 32, 116, 104, 101, 110, 32]
def nsEnd : List UInt8 := [32, 101, 110, 100]
def nestA (m : Nat) : List UInt8 := nsA ++ rep [40] m ++ [49] ++ rep [41] m ++ nsB
def nestB (m : Nat) : List UInt8 := nsC ++ rep nsIf m ++ nsW ++ rep nsEnd m ++ nsB
theorem nestAF : ∀ m, m < 20 → (compF (nestA m)).2.2 = (if m ≤ 16 then 0 else 8) ∧ (16 < m → (compF (nestA m)).2.1 = 39) := by decide +kernel
theorem nestBF : ∀ m, m < 20 → (compF (nestB m)).2.2 = (if m ≤ 16 then 0 else 8) ∧ (16 < m → (compF (nestB m)).2.1 = 177) := by decide +kernel
end Go.Proofs.YteddjcpaeoceeaaDoor.Cm
namespace Go.Proofs.YteddjcpaeoceeaaDoor.Cm
open Go Go.Sx Go.Sx.Chunk
set_option linter.unusedVariables false
set_option linter.unusedSimpArgs false
theorem txt_mk (l : List UInt8) : Sc.txt ⟨l.toArray⟩ = l := Sc.txt_bs l
set_option maxRecDepth 100000 in
theorem awakeC : FnC (α := Unit) Tryd.prog 6 [] [] [spaceV] (fun _ => .bool true) (fun _ => []) (fun _ => True) := by
  have h1 := compileC (Sc.bs awT1) (by decide +kernel)
  have h2 := compileC (Sc.bs awT2) (by decide +kernel)
  have f1 := aw1F
  have f2 := aw2F
  rw [Sc.txt_bs] at h1 h2
  unfold compO at h1 h2
  generalize compF awT1 = r1 at *
  generalize compF awT2 = r2 at *
  obtain ⟨o1, p1, e1⟩ := r1
  subst f2
  obtain ⟨f1a, f1b⟩ := f1
  dsimp only at *
  cases f1a
  cases o1 with
  | none => cases f1b
  | some o =>
    simp only [Option.map_some, Option.some.injEq, Prod.mk.injEq] at f1b
    obtain ⟨hn, hc⟩ := f1b
    simp only [Option.getD_some, Option.getD_none] at h1 h2
    unfold o6G o6H at h1 h2
    have hn2 : o.name = ⟨#[97]⟩ := hn
    rw [hc, hn2] at h1
    unfold ob0 at h2
    refine fn_intro Tryd.func6 Tryd.ntmps6 rfl rfl rfl (fun w0 => ?_)
    try simp only [List.cons_append, List.nil_append, List.append_nil]
    refine rr ?_
    refine cl (h1) ?_
    intro x _
    try simp only [List.cons_append, List.nil_append, List.append_nil]
    refine rr ?_
    intro b1 _
    refine rr ?_
    refine cl (h2) ?_
    intro y _
    try simp only [List.cons_append, List.nil_append, List.append_nil]
    refine rr ?_
    intro b4 _
    refine rr ?_
    exact en () trivial
end Go.Proofs.YteddjcpaeoceeaaDoor.Cm
namespace Go.Proofs.YteddjcpaeoceeaaDoor.Cm
open Go Go.Sx Go.Sx.Chunk
set_option linter.unusedVariables false
set_option linter.unusedSimpArgs false
theorem bs_app (a b : List UInt8) : Sc.bs a ++ Sc.bs b = Sc.bs (a ++ b) := by
  rw [← Sc.bs_txt (Sc.bs a ++ Sc.bs b)]
  simp [Sc.txt, Sc.bs]
theorem rep_len (l : List UInt8) : ∀ n, (rep l n).length = n * l.length
  | 0 => by simp [rep]
  | n + 1 => by simp only [rep, List.length_append, rep_len l n]; rw [Nat.succ_mul]
theorem size_rep (l : List UInt8) (n : Nat) : (Sc.bs (rep l n)).size = n * l.length := by rw [Sc.bs_size, rep_len]
set_option maxHeartbeats 4000000 in
set_option maxRecDepth 100000 in
theorem nest_spec (n : Int) (h0 : 0 ≤ n) (h1 : n ≤ 255) : FnC (α := Unit) Tryd.prog 5 [.int .u8 n] [] [spaceV] (fun _ => .bool true) (fun _ => []) (fun _ => True) := by
  refine fn_intro Tryd.func5 Tryd.ntmps5 rfl rfl rfl (fun w0 => ?_)
  try simp only [List.cons_append, List.nil_append, List.append_nil]
  refine rr ?_
  refine lo [3, 17] (fun z : Nat × ByteArray × ByteArray × ByteArray × ByteArray => [(4, .string z.2.1), (5, .string z.2.2.1), (6, .string z.2.2.2.1), (7, .string z.2.2.2.2), (18, .int .i64 (z.1 : Int))]) (fun z => []) (fun z => (z.1 : Int) ≤ n % 20 ∧ z.2.1 = Sc.bs (rep [40] z.1) ∧ z.2.2.1 = Sc.bs (rep [41] z.1) ∧ z.2.2.2.1 = Sc.bs (rep nsIf z.1) ∧ z.2.2.2.2 = Sc.bs (rep nsEnd z.1)) (fun z => 20 - z.1) (0, .empty, .empty, .empty, .empty) ⟨by dsimp only; omega, rfl, rfl, rfl, rfl⟩ ?_
  rintro ⟨k, a, b, c, d⟩ ⟨hk, ha, hb, hc, hd⟩ K1 hK1
  dsimp only at hk ha hb hc hd ⊢
  have sa : a.size = k * 1 := by rw [ha]; exact size_rep _ _
  have sb : b.size = k * 1 := by rw [hb]; exact size_rep _ _
  have sc : c.size = k * 10 := by rw [hc]; exact size_rep _ _
  have sd : d.size = k * 4 := by rw [hd]; exact size_rep _ _
  by_cases hlt : (k : Int) < n % 20
  · skip
    refine rr ?_
    refine ro hK1 (k + 1, a ++ ⟨#[40]⟩, b ++ ⟨#[41]⟩, c ++ ⟨nsIf.toArray⟩, d ++ ⟨nsEnd.toArray⟩) ⟨by dsimp only; omega, ?_, ?_, ?_, ?_⟩
    · rw [ha]; exact bs_app _ _
    · rw [hb]; exact bs_app _ _
    · rw [hc]; exact bs_app _ _
    · rw [hd]; exact bs_app _ _
  · have hkn : (k : Int) = n % 20 := by omega
    have hk20 : k < 20 := by omega
    have f1 := nestAF k hk20
    have f2 := nestBF k hk20
    have t1 : Sc.txt (Sc.bs nsA ++ a ++ Sc.bs [49] ++ b ++ Sc.bs nsB) = nestA k := by
      rw [ha, hb]; simp only [bs_app]; exact Sc.txt_bs _
    have t2 : Sc.txt (Sc.bs nsC ++ c ++ Sc.bs nsW ++ d ++ Sc.bs nsB) = nestB k := by
      rw [hc, hd]; simp only [bs_app]; exact Sc.txt_bs _
    have c1 := compileC (Sc.bs nsA ++ a ++ Sc.bs [49] ++ b ++ Sc.bs nsB) (by simp only [ByteArray.size_append, sa, sb, Sc.bs_size]; simp only [nsA, nsB, List.length_cons, List.length_nil]; omega)
    have c2 := compileC (Sc.bs nsC ++ c ++ Sc.bs nsW ++ d ++ Sc.bs nsB) (by simp only [ByteArray.size_append, sc, sd, Sc.bs_size]; simp only [nsC, nsB, nsW, List.length_cons, List.length_nil]; omega)
    rw [t1] at c1
    rw [t2] at c2
    have h3 := awakeC
    generalize compO (nestA k) = oA at *
    generalize compO (nestB k) = oB at *
    generalize compF (nestA k) = rA at *
    generalize compF (nestB k) = rB at *
    obtain ⟨rA0, rA1, rA2⟩ := rA
    obtain ⟨rB0, rB1, rB2⟩ := rB
    dsimp only at *
    unfold o6G o6H at c1 c2
    by_cases h16 : k ≤ 16
    · rw [if_pos h16] at f1 f2
      obtain ⟨f1, -⟩ := f1
      obtain ⟨f2, -⟩ := f2
      subst f1 f2
      refine rr ?_
      refine cl (c1) ?_
      intro x _
      try simp only [List.cons_append, List.nil_append, List.append_nil]
      refine rr ?_
      intro b8 _
      refine rr ?_
      refine cl (c2) ?_
      intro y _
      try simp only [List.cons_append, List.nil_append, List.append_nil]
      refine rr ?_
      intro b11 _
      refine rr ?_
      refine cl (h3) ?_
      intro _ _
      try simp only [List.cons_append, List.nil_append, List.append_nil]
      refine rr ?_
      exact en () trivial
    · rw [if_neg h16] at f1 f2
      have g1 := f1.2 (by omega)
      have g2 := f2.2 (by omega)
      obtain ⟨f1, -⟩ := f1
      obtain ⟨f2, -⟩ := f2
      subst f1 f2 g1 g2
      refine rr ?_
      refine cl (c1) ?_
      intro x _
      try simp only [List.cons_append, List.nil_append, List.append_nil]
      refine rr ?_
      intro b8 _
      refine rr ?_
      refine cl (c2) ?_
      intro y _
      try simp only [List.cons_append, List.nil_append, List.append_nil]
      refine rr ?_
      intro b11 _
      refine rr ?_
      refine cl (h3) ?_
      intro _ _
      try simp only [List.cons_append, List.nil_append, List.append_nil]
      refine rr ?_
      exact en () trivial
theorem nest_law (n : Int) (h : inK .u8 n) : FnC (α := Unit) Tryd.prog 5 [.int .u8 n] [] [spaceV] (fun _ => .bool true) (fun _ => []) (fun _ => True) := by
  have h2 : 0 ≤ n ∧ n ≤ 255 := by simpa [inK, IntKind.min, IntKind.max, IntKind.signed, IntKind.bits] using h
  exact nest_spec n h2.1 h2.2
end Go.Proofs.YteddjcpaeoceeaaDoor.Cm
namespace Go.Proofs.YteddjcpaeoceeaaDoor.Sc
open Go Go.Sx Go.Sx.Chunk
set_option linter.unusedVariables false
set_option linter.unusedSimpArgs false
/-- One step: what is known of a text that is not empty. -/
inductive Step1 (p : Nat) (c : UInt8) (r : List UInt8) : Prop
  | blank (h : isBlank c = true) (he : scanD p (c :: r) = scanD (p + 1) r)
  | open' (h : isBlank c = false) (hc : c = 123) (k : Int) (hk : Lib.indexByte (c :: r) 125 = k) (hneg : k < 0) (he : scanD p (c :: r) = ([], p, 2))
  | comment (h : isBlank c = false) (hc : c = 123) (k : Nat) (hk : Lib.indexByte (c :: r) 125 = k) (hle : k + 1 ≤ (c :: r).length) (he : scanD p (c :: r) = scanD (p + k + 1) ((c :: r).drop (k + 1)))
  | bad (h : isBlank c = false) (hc : c ≠ 123) (hb : (tokR (c :: r)).2.2 ≠ 0) (he : scanD p (c :: r) = ([], p, (tokR (c :: r)).2.2))
  | tok (h : isBlank c = false) (hc : c ≠ 123) (hb : (tokR (c :: r)).2.2 = 0) (h1 : 1 ≤ (tokR (c :: r)).2.1) (h2 : (tokR (c :: r)).2.1 ≤ (c :: r).length) (he : scanD p (c :: r) = consT ((tokR (c :: r)).1, p) (scanD (p + (tokR (c :: r)).2.1) ((c :: r).drop (tokR (c :: r)).2.1)))
theorem step1 (p : Nat) (c : UInt8) (r : List UInt8) : Step1 p c r := by
  have h := scanD_cons p c r
  cases hb : isBlank c with
  | true => rw [hb, if_pos rfl] at h; exact .blank hb h
  | false =>
    rw [hb, if_neg (by simp)] at h
    by_cases hc : c = 123
    · rw [if_pos hc] at h
      by_cases hk : Lib.indexByte (c :: r) 125 < 0
      · rw [if_pos hk] at h; exact .open' hb hc _ rfl hk h
      · rw [if_neg hk] at h
        have := indexByte_lt (c :: r) 125
        exact .comment hb hc (Lib.indexByte (c :: r) 125).toNat (by omega) (by omega) h
    · rw [if_neg hc] at h
      by_cases ht : (tokR (c :: r)).2.2 ≠ 0
      · rw [if_pos ht] at h; exact .bad hb hc ht h
      · rw [if_neg ht] at h
        have ht' : (tokR (c :: r)).2.2 = 0 := by simpa using ht
        have := tokR_len ht'
        exact .tok hb hc ht' this.1 this.2 h
/-! ### Places further on -/
def shiftR (d : Nat) (r : ScanRes) : ScanRes := (r.1.map (fun t => (t.1, t.2 + d)), if r.2.2 = 0 then r.2.1 else r.2.1 + d, r.2.2)
theorem shift_cons (d : Nat) (t : Tk) (p : Nat) (r : ScanRes) : shiftR d (consT (t, p) r) = consT (t, p + d) (shiftR d r) := by
  unfold shiftR consT
  by_cases h : r.2.2 = 0 <;> simp [h]
theorem scanD_shift (d : Nat) : ∀ (n p : Nat) (l : List UInt8), l.length ≤ n → scanD (p + d) l = shiftR d (scanD p l)
  | n, p, [], _ => by simp [scanD_nil, shiftR]
  | 0, p, c :: r, h => by simp at h
  | n + 1, p, c :: r, h => by
    simp only [List.length_cons, Nat.add_le_add_iff_right] at h
    cases step1 p c r with
    | blank hb he =>
      rw [he, scanD_cons, hb, if_pos rfl, ← scanD_shift d n (p + 1) r h]
      congr 1; omega
    | open' hb hc k hk hneg he =>
      rw [he, scanD_cons, hb, if_neg (by simp), if_pos hc, hk, if_pos hneg]; rfl
    | comment hb hc k hk hle he =>
      rw [he, scanD_cons, hb, if_neg (by simp), if_pos hc, hk, if_neg (by omega), ← scanD_shift d n _ _ (by simp; omega)]
      rw [Int.toNat_natCast]
      congr 1; omega
    | bad hb hc ht he =>
      rw [he, scanD_cons, hb, if_neg (by simp), if_neg hc, if_pos ht]
      simp [shiftR, ht]
    | tok hb hc ht h1 h2 he =>
      rw [he, scanD_cons, hb, if_neg (by simp), if_neg hc, if_neg (by simpa using ht), shift_cons, ← scanD_shift d n _ _ (by simp; omega)]
      congr 2; omega
theorem skip_blanks : ∀ (bks l : List UInt8) (p : Nat), (∀ b ∈ bks, isBlank b = true) → scanD p (bks ++ l) = scanD (p + bks.length) l
  | [], l, p, _ => rfl
  | b :: bks, l, p, h => by
    rw [List.cons_append, scanD_cons, h b (by simp), if_pos rfl, skip_blanks bks l (p + 1) (fun c hc => h c (by simp [hc]))]
    congr 1; simp [Nat.add_comm, Nat.add_left_comm]
theorem idx_app {c : List UInt8} {l : List UInt8} {x : UInt8} (h : ∀ b ∈ c, b ≠ x) : Lib.indexByte (c ++ x :: l) x = c.length := by
  induction c with
  | nil => simp [Lib.indexByte]
  | cons b c ih =>
    have ih' := ih (fun d hd => h d (by simp [hd]))
    simp only [List.cons_append, Lib.indexByte]
    rw [if_neg (by simpa using h b (by simp)), ih', if_neg (by simp)]
    simp
theorem skip_comment (c l : List UInt8) (p : Nat) (h : ∀ b ∈ c, b ≠ 125) : scanD p (123 :: c ++ 125 :: l) = scanD (p + c.length + 2) l := by
  have hi : Lib.indexByte (123 :: (c ++ 125 :: l)) 125 = ((c.length + 1 : Nat) : Int) := by
    have := idx_app (c := 123 :: c) (l := l) (x := 125) (by intro b hb; rcases List.mem_cons.1 hb with rfl | hb; decide; exact h b hb)
    simpa using this
  rw [List.cons_append, scanD_cons, if_neg (by decide), if_pos rfl, hi, if_neg (by omega), Int.toNat_natCast]
  have hd : (123 :: (c ++ 125 :: l)).drop (c.length + 1 + 1) = l := by
    rw [List.drop_succ_cons, List.drop_append]
    simp
  rw [hd]
  congr 1
/-- Blanks and a comment ahead. -/
theorem scan_ahead (c bks l : List UInt8) (hc : ∀ b ∈ c, b ≠ 125) (hb : ∀ b ∈ bks, isBlank b = true) : scanD 0 (123 :: c ++ 125 :: (bks ++ l)) = shiftR (c.length + 2 + bks.length) (scanD 0 l) := by
  rw [skip_comment c (bks ++ l) 0 hc, skip_blanks bks l _ hb, ← scanD_shift _ _ 0 l (Nat.le_refl _)]
  congr 1; omega
end Go.Proofs.YteddjcpaeoceeaaDoor.Sc
namespace Go.Proofs.YteddjcpaeoceeaaDoor.Cm
open Go
set_option linter.unusedVariables false
set_option linter.unusedSimpArgs false
def shD (D : Nat) : Pm := ⟨fun x => x + D, fun x h => by omega⟩
theorem comp_ahead (c bks s : List UInt8) (hc : ∀ b ∈ c, b ≠ 125) (hb : ∀ b ∈ bks, Sc.isBlank b = true) :
    (compF (123 :: c ++ 125 :: (bks ++ s))).1 = (compF s).1 ∧ (compF (123 :: c ++ 125 :: (bks ++ s))).2.2 = (compF s).2.2 ∧ ((compF s).2.2 ≠ 0 → (compF (123 :: c ++ 125 :: (bks ++ s))).2.1 = (compF s).2.1 + ((c.length + 2 + bks.length : Nat) : Int)) := by
  generalize hD : c.length + 2 + bks.length = D
  have hl : (123 :: c ++ 125 :: (bks ++ s)).length = s.length + D := by simp; omega
  have h := Sc.scan_ahead c bks s hc hb
  rw [hD] at h
  unfold compF
  rw [h, hl]
  generalize Sc.scanD 0 s = r
  obtain ⟨l, pl, e⟩ := r
  unfold Sc.shiftR
  dsimp only
  by_cases he : e = 0
  · simp only [he, if_true, ne_eq, not_true_eq_false, if_false]
    have h0 : cs0 (l.map fun t => (t.1, t.2 + D)) ((s.length + D : Nat) : Int) = sh (shD D) (cs0 l (s.length : Int)) := by
      unfold cs0 sh shD
      simp
      intro a b _; omega
    rw [List.length_map, h0, program_sh]
    generalize mProgram (l.length + 1) (cs0 l (s.length : Int)) = q
    have h1 : (if (sh (shD D) q).e = 0 ∧ (sh (shD D) q).code.length > 4096 then mStop 4 ((s.length + D : Nat) : Int) (sh (shD D) q) else sh (shD D) q) = sh (shD D) (if q.e = 0 ∧ q.code.length > 4096 then mStop 4 (s.length : Int) q else q) := by
      have := stop_sh (shD D) (show (4 : Int) ≠ 0 by decide) (s.length : Int) q
      rw [Int.natCast_add]
      dsimp only [shD] at this ⊢
      rw [this]
      exact ite_sh _ _ _
    rw [h1]
    generalize (if q.e = 0 ∧ q.code.length > 4096 then mStop 4 (s.length : Int) q else q) = q2
    by_cases hq : q2.e = 0
    · have hq2 : (sh (shD D) q2).e = 0 := hq
      simp only [hq, hq2]
      refine ⟨by first | rfl | trivial, by first | rfl | trivial, fun h => absurd rfl h⟩
    · have hq2 : ¬ (sh (shD D) q2).e = 0 := hq
      simp only [hq, hq2]
      refine ⟨by first | rfl | trivial, by first | rfl | trivial, fun _ => ?_⟩
      show (sh (shD D) q2).bad = q2.bad + _
      unfold sh
      rw [if_neg hq]
      rfl
  · simp only [he, ne_eq, not_false_eq_true, if_true, if_false]
    refine ⟨by first | rfl | trivial, by first | rfl | trivial, fun _ => ?_⟩
    omega
/-- No further than B. -/
def shB (B : Nat) : Pm := ⟨fun x => max 0 (min x B), fun x h => by omega⟩
theorem scan_place : ∀ (n p : Nat) (l : List UInt8), l.length ≤ n → (∀ t ∈ (Sc.scanD p l).1, t.2 ≤ p + l.length) ∧ ((Sc.scanD p l).2.1 ≤ p + l.length)
  | n, p, [], _ => by simp [Sc.scanD_nil]
  | 0, p, c :: r, h => by simp at h
  | n + 1, p, c :: r, h => by
    simp only [List.length_cons, Nat.add_le_add_iff_right] at h
    cases Sc.step1 p c r with
    | blank hb he =>
      rw [he]
      have := scan_place n (p + 1) r h
      refine ⟨fun t ht => ?_, ?_⟩
      · have := this.1 t ht; simp only [List.length_cons]; omega
      · have := this.2; simp only [List.length_cons]; omega
    | open' hb hc k hk hneg he => rw [he]; simp
    | comment hb hc k hk hle he =>
      rw [he]
      have := scan_place n (p + k + 1) ((c :: r).drop (k + 1)) (by simp; omega)
      simp only [List.length_drop] at this
      simp only [List.length_cons] at this hle ⊢
      refine ⟨fun t ht => ?_, ?_⟩
      · have := this.1 t ht; omega
      · have := this.2; omega
    | bad hb hc ht he => rw [he]; simp
    | tok hb hc ht h1 h2 he =>
      rw [he]
      have := scan_place n (p + (Sc.tokR (c :: r)).2.1) ((c :: r).drop (Sc.tokR (c :: r)).2.1) (by simp; omega)
      simp only [List.length_drop] at this
      simp only [List.length_cons] at this h2 ⊢
      unfold Sc.consT
      split
      · refine ⟨fun t ht => ?_, ?_⟩
        · rcases List.mem_cons.1 ht with rfl | ht
          · dsimp only; omega
          · have := this.1 t ht; omega
        · have := this.2; dsimp only; omega
      · refine ⟨fun t ht => (by cases ht), ?_⟩
        have := this.2; dsimp only; omega
/-- The place of an error stands in the text, or at its end. -/
theorem comp_place (s : List UInt8) : (compF s).2.2 ≠ 0 → 0 ≤ (compF s).2.1 ∧ (compF s).2.1 ≤ (s.length : Int) := by
  unfold compF
  have hp := scan_place _ 0 s (Nat.le_refl _)
  generalize Sc.scanD 0 s = r at *
  obtain ⟨l, pl, e⟩ := r
  dsimp only at *
  by_cases he : e ≠ 0
  · simp only [if_pos he]
    intro _
    have := hp.2
    omega
  · simp only [if_neg he]
    have h0 : cs0 l (s.length : Int) = sh (shB s.length) (cs0 l (s.length : Int)) := by
      unfold cs0 sh shB
      have hl : l.map (fun t => (t.1, (max 0 (min (t.2 : Int) (s.length : Int))).toNat)) = l := by
        conv => rhs; rw [← List.map_id l]
        refine List.map_congr_left fun t ht => ?_
        have := hp.1 t ht
        show (t.1, _) = t
        rw [show (max 0 (min (t.2 : Int) (s.length : Int))).toNat = t.2 by omega]
      dsimp only
      rw [hl]
      simp
    have h1 := program_sh (d := shB s.length) (l.length + 1) (cs0 l (s.length : Int))
    rw [← h0] at h1
    generalize mProgram (l.length + 1) (cs0 l (s.length : Int)) = q at *
    have hb : q.e ≠ 0 → 0 ≤ q.bad ∧ q.bad ≤ (s.length : Int) := fun hq => by
      have h2 : q.bad = (sh (shB s.length) q).bad := congrArg CS.bad h1
      unfold sh at h2
      rw [if_neg hq] at h2
      dsimp only [shB] at h2
      omega
    have hb2 : (if q.e = 0 ∧ q.code.length > 4096 then mStop 4 (s.length : Int) q else q).e ≠ 0 → 0 ≤ (if q.e = 0 ∧ q.code.length > 4096 then mStop 4 (s.length : Int) q else q).bad ∧ (if q.e = 0 ∧ q.code.length > 4096 then mStop 4 (s.length : Int) q else q).bad ≤ (s.length : Int) := by
      split
      · rename_i h2
        intro _
        simp only [mStop, h2.1, if_true]
        omega
      · exact hb
    generalize (if q.e = 0 ∧ q.code.length > 4096 then mStop 4 (s.length : Int) q else q) = q2 at *
    intro h
    by_cases hc : q2.e ≠ 0
    · rw [if_pos hc]; exact hb2 hc
    · rw [if_neg hc] at h; exact absurd rfl h
end Go.Proofs.YteddjcpaeoceeaaDoor.Cm
namespace Go.Proofs.YteddjcpaeoceeaaDoor.Cm
open Go Go.Sx Go.Sx.Chunk
set_option linter.unusedVariables false
set_option linter.unusedSimpArgs false
def comT : List UInt8 := [97, 32, 99, 111, 109, 109, 101, 110, 116]
def ahT (k : Nat) : List UInt8 := 123 :: comT ++ 125 :: rep [32, 10] k
theorem rep_blank : ∀ k, ∀ b ∈ rep [32, 10] k, Sc.isBlank b = true
  | 0, b, h => by simp [rep] at h
  | k + 1, b, h => by
    simp only [rep, List.mem_append, List.mem_cons, List.not_mem_nil, or_false] at h
    rcases h with h | rfl | rfl
    · exact rep_blank k b h
    · decide
    · decide
theorem insC_get {l : List In} {k : Nat} {i : In} (h : l[k]? = some i) (n : Nat) (hn : n = k * 5) : ((insC l).drop n).take 5 = inV i := insC_all h n hn
set_option maxHeartbeats 4000000 in
set_option maxRecDepth 100000 in
theorem blanks_spec (s : ByteArray) (n : Int) (h0 : 0 ≤ n) (h1 : n ≤ 255) : FnC (α := Unit) Tryd.prog 3 [.string s, .int .u8 n] [] [spaceV] (fun _ => .bool true) (fun _ => []) (fun _ => True) := by
  have haw := awakeC
  by_cases hs : s.size ≤ 400
  · skip
    refine fn_intro Tryd.func3 Tryd.ntmps3 rfl rfl rfl (fun w0 => ?_)
    try simp only [List.cons_append, List.nil_append, List.append_nil]
    refine rr ?_
    refine lo [0, 18] (fun z : Nat × ByteArray => [(5, .string z.2), (19, .int .u8 (z.1 : Int))]) (fun z => []) (fun z => (z.1 : Int) ≤ n % 20 ∧ z.2 = Sc.bs (ahT z.1)) (fun z => 20 - z.1) (0, Sc.bs (ahT 0)) ⟨by dsimp only; omega, rfl⟩ ?_
    rintro ⟨k, a⟩ ⟨hk, ha⟩ K1 hK1
    dsimp only at hk ha ⊢
    have sa : a.size = k * 2 + 11 := by rw [ha, Sc.bs_size]; simp only [ahT, comT, List.length_append, List.length_cons, List.length_nil, rep_len]; omega
    by_cases hlt : (k : Int) < n % 20
    · skip
      refine rr ?_
      refine ro hK1 (k + 1, a ++ ⟨#[32, 10]⟩) ⟨by dsimp only; omega, ?_⟩
      rw [ha]; refine (bs_app _ _).trans ?_
      simp [ahT, rep]
    · have hkn : (k : Int) = n % 20 := by omega
      have c1 := compileC s (by omega)
      have c2 := compileC (a ++ s) (by simp only [ByteArray.size_append]; omega)
      have t1 : Sc.txt (a ++ s) = 123 :: comT ++ 125 :: (rep [32, 10] k ++ Sc.txt s) := by
        rw [ha, ← Sc.bs_txt s, bs_app, Sc.txt_bs, Sc.txt_bs]
        simp [ahT]
      obtain ⟨g1, g2, g3⟩ := comp_ahead comT (rep [32, 10] k) (Sc.txt s) (by decide) (rep_blank k)
      rw [← t1] at g1 g2 g3
      have hpl := comp_place (Sc.txt s)
      have hcl := comp_len (Sc.txt s)
      rw [Sc.txt_len] at hpl
      rw [show compO (Sc.txt (a ++ s)) = compO (Sc.txt s) by unfold compO; rw [g1]] at c2
      rw [g2] at c2
      rw [show comT.length + 2 + (rep [32, 10] k).length = a.size by rw [sa, rep_len]; simp [comT]; omega] at g3
      generalize compF (Sc.txt (a ++ s)) = r2 at *
      generalize compO (Sc.txt s) = o at *
      generalize compF (Sc.txt s) = r1 at *
      obtain ⟨r10, p1, e1⟩ := r1
      obtain ⟨r20, p2, e2⟩ := r2
      dsimp only at *
      clear g1 g2 t1
      unfold o6G o6H at c1 c2
      by_cases he : e1 = 0
      · subst he
        clear g3 hpl
        refine rr ?_
        refine cl (c1) ?_
        intro ⟨a1, d1, a2, d2, a3, d3, a4, d4⟩ _
        try simp only [List.cons_append, List.nil_append, List.append_nil]
        refine rr ?_
        intro b6 _
        refine rr ?_
        refine cl (c2) ?_
        intro ⟨f1, g1, f2, g2, f3, g3, f4, g4⟩ _
        try simp only [List.cons_append, List.nil_append, List.append_nil]
        refine rr ?_
        intro b9 _
        refine rr ?_
        refine lo [6, 9, 87] (fun j : Nat => [(88, .int .i64 (j : Int))]) (fun j => []) (fun j => j ≤ o.code.length) (fun j => o.code.length - j) 0 (Nat.zero_le _) ?_
        intro j hj K2 hK2
        dsimp only at hj ⊢
        by_cases hjl : j < o.code.length
        · obtain ⟨i, hi⟩ := some_at hjl
          have hall : ((insC o.code).drop (0 + (j : Int).toNat * 5)).take 5 = [.int .i64 i.op, .int .i64 i.a, .int .i64 i.b, .int .i64 i.c, .int .i64 i.imm] := insC_all hi _ (by omega)
          have hil := insC_len o.code
          refine w_use (fun w hw => (hw.pick 1 rfl).row_some (by omega)) ?_
          rintro ⟨gg1, rfl⟩
          refine w_use (fun w hw => (hw.pick 6 rfl).row_some (by omega)) ?_
          rintro ⟨gg2, rfl⟩
          refine rr ?_
          refine dx [0, 1, 2, 3, 4, 5, 6, 7, 8, 9, 10] [1, 4, 6, 9] [] ?_
          refine rr ?_
          exact ro hK2 (j + 1) (by omega)
        · obtain rfl : j = o.code.length := by omega
          refine rr ?_
          refine cl (haw) ?_
          intro _ _
          refine rr ?_
          exact en () trivial
      · have g3 := g3 he
        subst g3
        have hne : (e1 != 0) = true := by simpa using he
        refine rr ?_
        refine cl (c1) ?_
        intro ⟨a1, d1, a2, d2, a3, d3, a4, d4⟩ _
        try simp only [List.cons_append, List.nil_append, List.append_nil]
        refine rr ?_
        intro b6 _
        refine rr ?_
        refine cl (c2) ?_
        intro ⟨f1, g1, f2, g2, f3, g3, f4, g4⟩ _
        try simp only [List.cons_append, List.nil_append, List.append_nil]
        refine rr ?_
        intro b9 _
        refine rr ?_
        refine lo [6, 9, 87] (fun j : Nat => [(88, .int .i64 (j : Int))]) (fun j => []) (fun j => j ≤ o.code.length) (fun j => o.code.length - j) 0 (Nat.zero_le _) ?_
        intro j hj K2 hK2
        dsimp only at hj ⊢
        by_cases hjl : j < o.code.length
        · obtain ⟨i, hi⟩ := some_at hjl
          have hall : ((insC o.code).drop (0 + (j : Int).toNat * 5)).take 5 = [.int .i64 i.op, .int .i64 i.a, .int .i64 i.b, .int .i64 i.c, .int .i64 i.imm] := insC_all hi _ (by omega)
          have hil := insC_len o.code
          refine w_use (fun w hw => (hw.pick 1 rfl).row_some (by omega)) ?_
          rintro ⟨gg1, rfl⟩
          refine w_use (fun w hw => (hw.pick 6 rfl).row_some (by omega)) ?_
          rintro ⟨gg2, rfl⟩
          refine rr ?_
          refine dx [0, 1, 2, 3, 4, 5, 6, 7, 8, 9, 10] [1, 4, 6, 9] [] ?_
          refine rr ?_
          exact ro hK2 (j + 1) (by omega)
        · obtain rfl : j = o.code.length := by omega
          refine rr ?_
          refine cl (haw) ?_
          intro _ _
          refine rr ?_
          exact en () trivial
  · skip
    refine fn_intro Tryd.func3 Tryd.ntmps3 rfl rfl rfl (fun w0 => ?_)
    try simp only [List.cons_append, List.nil_append, List.append_nil]
    refine rr ?_
    refine cl (haw) ?_
    intro _ _
    try simp only [List.cons_append, List.nil_append, List.append_nil]
    refine rr ?_
    exact en () trivial
theorem blanks_law (s : ByteArray) (n : Int) (h : inK .u8 n) : FnC (α := Unit) Tryd.prog 3 [.string s, .int .u8 n] [] [spaceV] (fun _ => .bool true) (fun _ => []) (fun _ => True) := by
  have h2 : 0 ≤ n ∧ n ≤ 255 := by simpa [inK, IntKind.min, IntKind.max, IntKind.signed, IntKind.bits] using h
  exact blanks_spec s n h2.1 h2.2
end Go.Proofs.YteddjcpaeoceeaaDoor.Cm
namespace Go.Proofs.YteddjcpaeoceeaaDoor.Sc
open Go Go.Sx Go.Sx.Chunk
set_option linter.unusedVariables false
set_option linter.unusedSimpArgs false
theorem run_app {p : Int → Bool} (h32 : p 32 = false) (l m : List UInt8) : runL p (l ++ 32 :: m) = runL p l := by
  induction l with
  | nil =>
    simp only [List.nil_append, runL]
    rw [show (((32 : UInt8).toNat : Nat) : Int) = 32 from rfl, h32]; rfl
  | cons b l ih => simp only [List.cons_append, runL, ih]
theorem sign_app (c : UInt8) (r m : List UInt8) : signR (c :: r ++ 32 :: m) = signR (c :: r) := by
  cases r with
  | nil =>
    have h : two c 32 = false := by
      unfold two
      simp
    simp only [List.cons_append, List.nil_append, signR, h, Bool.false_eq_true, if_false]
  | cons d r => simp only [List.cons_append, signR]
theorem take_app {l m : List UInt8} {k : Nat} (h : k ≤ l.length) : (l ++ m).take k = l.take k := by
  rw [List.take_append_of_le_length h]
theorem tok_app (c : UInt8) (r m : List UInt8) : tokR (c :: r ++ 32 :: m) = tokR (c :: r) := by
  have e1 := run_app (p := isLD) (by decide) (c :: r) m
  have e2 := run_app (p := isDigit) (by decide) (c :: r) m
  have e3 := sign_app c r m
  have e4 := take_app (m := 32 :: m) (runL_le isLD (c :: r))
  have e5 := take_app (m := 32 :: m) (runL_le isDigit (c :: r))
  have e6 := take_app (m := 32 :: m) (signR_le c r)
  rw [List.cons_append] at *
  simp only [tokR, e1, e2, e3, e4, e5, e6]
theorem idx_app2 {l m : List UInt8} {x : UInt8} (h : 0 ≤ Lib.indexByte l x) : Lib.indexByte (l ++ m) x = Lib.indexByte l x := by
  induction l with
  | nil => simp [Lib.indexByte] at h
  | cons b l ih =>
    simp only [List.cons_append, Lib.indexByte] at h ⊢
    split
    · rfl
    · rename_i hb
      rw [if_neg hb] at h
      by_cases h2 : Lib.indexByte l x = -1
      · rw [h2] at h; simp at h
      · have := Lib.indexByte_ge l x
        rw [ih (by omega)]
theorem scan_join (m : List UInt8) : ∀ (n p : Nat) (l : List UInt8), l.length ≤ n → (scanD p l).2.2 = 0 → scanD p (l ++ 32 :: m) = comb (scanD p l).1 (scanD (p + l.length + 1) m)
  | n, p, [], _, _ => by
    rw [List.nil_append, scanD_cons, show isBlank 32 = true from rfl, if_pos rfl, scanD_nil]
    rw [comb_nil _ (scanD_res _ _ _ (Nat.le_refl _))]; rfl
  | 0, p, c :: r, h, _ => by simp at h
  | n + 1, p, c :: r, h, h0 => by
    simp only [List.length_cons, Nat.add_le_add_iff_right] at h
    rw [List.cons_append, scanD_cons, ← List.cons_append]
    cases step1 p c r with
    | blank hb he =>
      rw [he] at h0 ⊢
      rw [hb, if_pos rfl, scan_join m n (p + 1) r h h0]
      congr 2; simp; omega
    | open' hb hc k hk hneg he => rw [he] at h0; simp at h0
    | comment hb hc k hk hle he =>
      rw [he] at h0 ⊢
      rw [hb, if_neg (by simp), if_pos hc, idx_app2 (by omega), hk, if_neg (by omega), Int.toNat_natCast]
      rw [List.drop_append_of_le_length hle, scan_join m n _ _ (by simp; omega) h0]
      congr 2; simp only [List.length_cons] at hle; simp; omega
    | bad hb hc ht he => rw [he] at h0; exact absurd h0 ht
    | tok hb hc ht h1 h2 he =>
      rw [he] at h0 ⊢
      have h0' : (scanD (p + (tokR (c :: r)).2.1) ((c :: r).drop (tokR (c :: r)).2.1)).2.2 = 0 := by
        unfold consT at h0
        split at h0
        · assumption
        · rename_i hx; exact absurd h0 hx
      rw [tok_app, hb, if_neg (by simp), if_neg hc, if_neg (by simpa using ht), List.drop_append_of_le_length h2, scan_join m n _ _ (by simp; omega) h0']
      unfold consT
      rw [if_pos h0']
      simp only [List.length_cons] at h2
      rw [show p + (tokR (c :: r)).2.1 + ((c :: r).drop (tokR (c :: r)).2.1).length + 1 = p + (c :: r).length + 1 by simp; omega]
      unfold comb
      by_cases hx : (scanD (p + (c :: r).length + 1) m).2.2 = 0
      · rw [if_pos hx, if_pos hx, if_pos (by exact hx)]; simp
      · rw [if_neg hx, if_neg hx, if_neg (by exact hx)]
end Go.Proofs.YteddjcpaeoceeaaDoor.Sc
namespace Go.Proofs.YteddjcpaeoceeaaDoor.Sc
open Go Go.Sx Go.Sx.Chunk
set_option linter.unusedVariables false
set_option linter.unusedSimpArgs false

theorem low_no {b : UInt8} (h : ¬ (65 ≤ b.toNat ∧ b.toNat ≤ 90)) : lowB b = b := by unfold lowB; rw [if_neg h]
/-- The digit of a number below ten. -/
def dig (n : Nat) : UInt8 := (48 + n % 10).toUInt8
theorem dig_nat (n : Nat) : (dig n).toNat = 48 + n % 10 := by
  unfold dig
  simp only [Nat.toUInt8, UInt8.toNat_ofNat']
  omega
theorem dig_is (n : Nat) : isDigit ((dig n).toNat : Int) = true := by
  rw [dig_nat]; simp [isDigit]; omega
def digF : Nat → Nat → List UInt8
  | 0, n => [dig n]
  | f + 1, n => if n < 10 then [dig n] else digF f (n / 10) ++ [dig n]
def digL (n : Nat) : List UInt8 := digF n n
theorem digF_eq : ∀ (f g n : Nat), n ≤ f → n ≤ g → digF f n = digF g n
  | 0, 0, n, _, _ => rfl
  | 0, g + 1, n, h, _ => by
    obtain rfl : n = 0 := by omega
    simp [digF]
  | f + 1, 0, n, _, h => by
    obtain rfl : n = 0 := by omega
    simp [digF]
  | f + 1, g + 1, n, hf, hg => by
    simp only [digF]
    split
    · rfl
    · rw [digF_eq f g (n / 10) (by omega) (by omega)]
theorem digL_lo {n : Nat} (h : n < 10) : digL n = [dig n] := by
  unfold digL
  cases n with
  | zero => rfl
  | succ n => simp only [digF, if_pos h]
theorem digL_hi {n : Nat} (h : 10 ≤ n) : digL n = digL (n / 10) ++ [dig n] := by
  unfold digL
  cases n with
  | zero => omega
  | succ m =>
    simp only [digF]
    rw [if_neg (by omega), digF_eq m ((m + 1) / 10) _ (by omega) (Nat.le_refl _)]
theorem digL_all (n : Nat) : ∀ b ∈ digL n, isDigit (b.toNat : Int) = true := by
  induction n using Nat.strongRecOn with
  | ind n ih =>
    intro b hb
    by_cases h : n < 10
    · rw [digL_lo h] at hb
      simp only [List.mem_singleton] at hb
      subst hb; exact dig_is n
    · rw [digL_hi (by omega)] at hb
      rcases List.mem_append.1 hb with hb | hb
      · exact ih (n / 10) (by omega) b hb
      · simp only [List.mem_singleton] at hb
        subst hb; exact dig_is n
theorem digL_len (n : Nat) : 1 ≤ (digL n).length ∧ (n < 100000 → (digL n).length ≤ 5) := by
  have key : ∀ k n, n < 10 ^ (k + 1) → (digL n).length ≤ k + 1 := by
    intro k
    induction k with
    | zero => intro n h; rw [digL_lo (by omega)]; simp
    | succ k ih =>
      intro n h
      by_cases h10 : n < 10
      · rw [digL_lo h10]; simp
      · rw [digL_hi (by omega), List.length_append]
        have := ih (n / 10) (by rw [Nat.pow_succ] at h; omega)
        simp; omega
  refine ⟨?_, fun h => key 4 n h⟩
  by_cases h : n < 10
  · rw [digL_lo h]; simp
  · rw [digL_hi (by omega)]; simp
/-- Digits mean their number. -/
def valL (l : List UInt8) (n : Int) : Int := l.foldl (fun n b => 10 * n + ((b.toNat : Int) - 48)) n
theorem valL_digL (n : Nat) : valL (digL n) 0 = n := by
  induction n using Nat.strongRecOn with
  | ind n ih =>
    by_cases h : n < 10
    · rw [digL_lo h]
      simp only [valL, List.foldl_cons, List.foldl_nil, dig_nat]
      omega
    · rw [digL_hi (by omega)]
      have := ih (n / 10) (by omega)
      unfold valL at this ⊢
      rw [List.foldl_append, this]
      simp only [List.foldl_cons, List.foldl_nil, dig_nat]
      omega
theorem valL_mono : ∀ (l : List UInt8) (n : Int), (∀ b ∈ l, isDigit (b.toNat : Int) = true) → 0 ≤ n → n ≤ valL l n
  | [], n, _, _ => Int.le_refl _
  | b :: l, n, hd, h0 => by
    have hb := hd b (by simp)
    simp only [isDigit, Bool.and_eq_true, decide_eq_true_eq] at hb
    have := valL_mono l (10 * n + ((b.toNat : Int) - 48)) (fun c hc => hd c (by simp [hc])) (by omega)
    unfold valL at this ⊢
    rw [List.foldl_cons]
    omega
theorem numL_val : ∀ (l : List UInt8) (n : Int), (∀ b ∈ l, isDigit (b.toNat : Int) = true) → 0 ≤ n → valL l n ≤ 32767 → numL l n = valL l n
  | [], n, _, _, _ => rfl
  | b :: l, n, hd, h0, h1 => by
    have hb := hd b (by simp)
    simp only [isDigit, Bool.and_eq_true, decide_eq_true_eq] at hb
    have hm := valL_mono l (10 * n + ((b.toNat : Int) - 48)) (fun c hc => hd c (by simp [hc])) (by omega)
    have h1' : valL l (10 * n + ((b.toNat : Int) - 48)) ≤ 32767 := by
      unfold valL at h1 ⊢; rwa [List.foldl_cons] at h1
    simp only [numL]
    rw [if_neg (by omega), numL_val l _ (fun c hc => hd c (by simp [hc])) (by omega) h1']
    rfl
theorem numL_digL {n : Nat} (h : n ≤ 32767) : numL (digL n) 0 = n := by
  rw [numL_val _ 0 (digL_all n) (Int.le_refl _) (by rw [valL_digL]; omega), valL_digL]

theorem runL_full {p : Int → Bool} : ∀ {l m : List UInt8} {x : UInt8}, (∀ b ∈ l, p (b.toNat : Int) = true) → p (x.toNat : Int) = false → runL p (l ++ x :: m) = l.length
  | [], m, x, _, hx => by simp [runL, hx]
  | b :: l, m, x, h, hx => by
    rw [List.cons_append]
    simp only [runL, h b (by simp), if_true, List.length_cons]
    rw [runL_full (fun c hc => h c (by simp [hc])) hx]
theorem digit_nums {b : UInt8} (h : isDigit (b.toNat : Int) = true) : 48 ≤ b.toNat ∧ b.toNat ≤ 57 := by
  simp only [isDigit, Bool.and_eq_true, decide_eq_true_eq] at h; omega
theorem digit_low {l : List UInt8} (h : ∀ b ∈ l, isDigit (b.toNat : Int) = true) : l.map lowB = l := by
  induction l with
  | nil => rfl
  | cons b l ih =>
    have := digit_nums (h b (by simp))
    rw [List.map_cons, ih (fun c hc => h c (by simp [hc])), low_no (by omega)]
/-- One number, as a name and as a number. -/
def wordL (n : Nat) : List UInt8 := 78 :: digL n ++ 10 :: (digL n ++ [32])
theorem scan_word (n p : Nat) (l : List UInt8) (hn : n ≤ 32767) : scanD p (wordL n ++ l) = consT (⟨1, 110 :: digL n, 0⟩, p) (consT (⟨2, [], n⟩, p + (digL n).length + 2) (scanD (p + (wordL n).length) l)) := by
  have hall := digL_all n
  obtain ⟨h1, h5⟩ := digL_len n
  have h5 := h5 (by omega)
  have hw : wordL n ++ l = 78 :: (digL n ++ 10 :: (digL n ++ 32 :: l)) := by simp [wordL]
  have hr1 : runL isLD (78 :: (digL n ++ 10 :: (digL n ++ 32 :: l))) = (digL n).length + 1 := by
    simp only [runL]
    rw [if_pos (by decide), runL_full (fun b hb => by unfold isLD; rw [hall b hb]; simp) (by decide)]
  have ht1 : tokR (78 :: (digL n ++ 10 :: (digL n ++ 32 :: l))) = (⟨1, 110 :: digL n, 0⟩, (digL n).length + 1, 0) := by
    simp only [tokR]
    rw [if_pos (by decide), hr1, if_neg (by omega)]
    have : (78 :: (digL n ++ 10 :: (digL n ++ 32 :: l))).take ((digL n).length + 1) = 78 :: digL n := by
      rw [List.take_succ_cons, List.take_left]
    rw [this, List.map_cons, digit_low hall]
    rfl
  rw [hw, scanD_cons, if_neg (by decide), if_neg (by decide), ht1, if_neg (by simp)]
  congr 1
  have hd1 : (78 :: (digL n ++ 10 :: (digL n ++ 32 :: l))).drop ((digL n).length + 1) = 10 :: (digL n ++ 32 :: l) := by
    rw [List.drop_succ_cons, List.drop_left]
  dsimp only
  rw [hd1, scanD_cons, show isBlank 10 = true from rfl, if_pos rfl]
  obtain ⟨c, r, hcr⟩ : ∃ c r, digL n = c :: r := by
    cases h : digL n with
    | nil => rw [h] at h1; simp at h1
    | cons c r => exact ⟨c, r, rfl⟩
  have hc := hall c (by rw [hcr]; simp)
  have hcn := digit_nums hc
  have hnl : isLetter (c.toNat : Int) = false := by simp [isLetter]; omega
  have hnb : isBlank c = false := by
    simp only [isBlank, Bool.or_eq_false_iff, beq_eq_false_iff_ne, ne_eq, ← UInt8.toNat_inj]
    exact ⟨⟨⟨by show c.toNat ≠ 32; omega, by show c.toNat ≠ 9; omega⟩, by show c.toNat ≠ 10; omega⟩, by show c.toNat ≠ 13; omega⟩
  have hn123 : c ≠ 123 := by intro h; subst h; simp at hcn
  have hr2 : runL isDigit (digL n ++ 32 :: l) = (digL n).length := runL_full hall (by decide)
  have ht2 : tokR (digL n ++ 32 :: l) = (⟨2, [], n⟩, (digL n).length, 0) := by
    rw [hcr, List.cons_append]
    simp only [tokR]
    rw [hnl, if_neg (by simp), hc, if_pos rfl, ← List.cons_append, ← hcr, hr2, List.take_left, numL_digL hn, if_neg (by omega)]
  rw [hcr, List.cons_append, scanD_cons, hnb, if_neg (by simp), if_neg hn123, ← List.cons_append, ← hcr, ht2, if_neg (by simp)]
  dsimp only
  rw [List.drop_left, scanD_cons, show isBlank 32 = true from rfl, if_pos rfl]
  congr 2
  simp [wordL]; omega
/-- Numbers, each told as a name, and as a number. -/
def wordsL (l : List Nat) : List UInt8 := l.flatMap wordL
def wordsT : Nat → List Nat → List (Tk × Nat)
  | _, [] => []
  | p, n :: l => (⟨1, 110 :: digL n, 0⟩, p) :: (⟨2, [], n⟩, p + (digL n).length + 2) :: wordsT (p + (wordL n).length) l
theorem scan_words : ∀ (l : List Nat) (p : Nat), (∀ n ∈ l, n ≤ 32767) → scanD p (wordsL l) = (wordsT p l, 0, 0)
  | [], p, _ => rfl
  | n :: l, p, h => by
    rw [wordsL, List.flatMap_cons, scan_word n p _ (h n (by simp)), show l.flatMap wordL = wordsL l from rfl, scan_words l _ (fun m hm => h m (by simp [hm]))]
    simp [consT, wordsT]
theorem wordsT_len : ∀ (l : List Nat) (p : Nat), (wordsT p l).length = 2 * l.length
  | [], p => rfl
  | n :: l, p => by simp only [wordsT, List.length_cons, wordsT_len l]; omega
theorem wordsT_get : ∀ {l : List Nat} {p k n : Nat}, l[k]? = some n → ∃ q q', (wordsT p l)[2 * k]? = some (⟨1, 110 :: digL n, 0⟩, q) ∧ (wordsT p l)[2 * k + 1]? = some (⟨2, [], n⟩, q')
  | [], p, k, n, h => by simp at h
  | m :: l, p, 0, n, h => by
    simp only [List.getElem?_cons_zero, Option.some.injEq] at h
    subst h
    exact ⟨p, _, rfl, rfl⟩
  | m :: l, p, k + 1, n, h => by
    obtain ⟨q, q', h1, h2⟩ := wordsT_get (l := l) (p := p + (wordL m).length) (k := k) (n := n) (by simpa using h)
    refine ⟨q, q', ?_, ?_⟩
    · rw [show 2 * (k + 1) = 2 * k + 1 + 1 by omega]; simpa [wordsT] using h1
    · rw [show 2 * (k + 1) + 1 = 2 * k + 1 + 1 + 1 by omega]; simpa [wordsT] using h2
end Go.Proofs.YteddjcpaeoceeaaDoor.Sc
namespace Go.Proofs.YteddjcpaeoceeaaDoor.Sc
open Go
set_option linter.unusedVariables false
set_option linter.unusedSimpArgs false
theorem scan_blank (p : Nat) (l : List UInt8) : scanD p (32 :: l) = scanD (p + 1) l := by
  rw [scanD_cons, show isBlank 32 = true from rfl, if_pos rfl]
/-- A word of small letters and digits. -/
theorem scan_name (c : UInt8) (w : List UInt8) (x : UInt8) (l : List UInt8) (p : Nat) (hc : isLetter (c.toNat : Int) = true) (hall : ∀ b ∈ c :: w, isLD (b.toNat : Int) = true) (hlow : (c :: w).map lowB = c :: w) (hlen : (c :: w).length ≤ 16) (hx : isLD (x.toNat : Int) = false) :
    scanD p (c :: w ++ x :: l) = consT (⟨1, c :: w, 0⟩, p) (scanD (p + (c :: w).length) (x :: l)) := by
  have hr1 : runL isLD (c :: w ++ x :: l) = (c :: w).length := runL_full hall hx
  have ht1 : tokR (c :: w ++ x :: l) = (⟨1, c :: w, 0⟩, (c :: w).length, 0) := by
    rw [List.cons_append] at hr1 ⊢
    simp only [tokR]
    rw [if_pos hc, hr1, if_neg (by omega)]
    rw [← List.cons_append, List.take_left, hlow]
  have hcl : (97 ≤ c.toNat ∧ c.toNat ≤ 122) ∨ (65 ≤ c.toNat ∧ c.toNat ≤ 90) := by
    simp only [isLetter, Bool.or_eq_true, Bool.and_eq_true, decide_eq_true_eq] at hc; omega
  have hnb : isBlank c = false := by
    simp only [isBlank, Bool.or_eq_false_iff, beq_eq_false_iff_ne, ne_eq, ← UInt8.toNat_inj]
    exact ⟨⟨⟨by show c.toNat ≠ 32; omega, by show c.toNat ≠ 9; omega⟩, by show c.toNat ≠ 10; omega⟩, by show c.toNat ≠ 13; omega⟩
  have hn123 : c ≠ 123 := by intro h; subst h; simp at hcl
  have h := scanD_cons p c (w ++ x :: l)
  rw [hnb, if_neg (by simp), if_neg hn123, ← List.cons_append, ht1, if_neg (by simp)] at h
  dsimp only at h
  rw [List.drop_left] at h
  rw [List.cons_append] at h ⊢
  exact h
theorem scan_num (n : Nat) (x : UInt8) (l : List UInt8) (p : Nat) (hn : n ≤ 32767) (hx : isDigit (x.toNat : Int) = false) :
    scanD p (digL n ++ x :: l) = consT (⟨2, [], n⟩, p) (scanD (p + (digL n).length) (x :: l)) := by
  have hall := digL_all n
  obtain ⟨h1, -⟩ := digL_len n
  obtain ⟨c, r, hcr⟩ : ∃ c r, digL n = c :: r := by
    cases h : digL n with
    | nil => rw [h] at h1; simp at h1
    | cons c r => exact ⟨c, r, rfl⟩
  have hc := hall c (by rw [hcr]; simp)
  have hcn := digit_nums hc
  have hnl : isLetter (c.toNat : Int) = false := by simp [isLetter]; omega
  have hnb : isBlank c = false := by
    simp only [isBlank, Bool.or_eq_false_iff, beq_eq_false_iff_ne, ne_eq, ← UInt8.toNat_inj]
    exact ⟨⟨⟨by show c.toNat ≠ 32; omega, by show c.toNat ≠ 9; omega⟩, by show c.toNat ≠ 10; omega⟩, by show c.toNat ≠ 13; omega⟩
  have hn123 : c ≠ 123 := by intro h; subst h; simp at hcn
  have hr2 : runL isDigit (digL n ++ x :: l) = (digL n).length := runL_full hall hx
  have ht2 : tokR (digL n ++ x :: l) = (⟨2, [], n⟩, (digL n).length, 0) := by
    rw [hcr, List.cons_append]
    simp only [tokR]
    rw [hnl, if_neg (by simp), hc, if_pos rfl, ← List.cons_append, ← hcr, hr2, List.take_left, numL_digL hn, if_neg (by omega)]
  have h := scanD_cons p c (r ++ x :: l)
  rw [hnb, if_neg (by simp), if_neg hn123, ← List.cons_append, ← hcr, ht2, if_neg (by simp)] at h
  dsimp only at h
  rw [List.drop_left] at h
  exact h
/-- A sign of one byte, that begins none of two. -/
theorem scan_sign (c : UInt8) (l : List UInt8) (p : Nat) (h1 : onesL.contains c = true) (h2 : c ≠ 58 ∧ c ≠ 60 ∧ c ≠ 62) :
    scanD p (c :: l) = consT (⟨3, [c], 0⟩, p) (scanD (p + 1) l) := by
  have hone : signR (c :: l) = 1 := by
    cases l with
    | nil => simp only [signR]; rw [if_pos h1]
    | cons d r =>
      simp only [signR]
      rw [if_neg, if_pos h1]
      simp [two, h2]
  have hm : ∀ c, onesL.contains c = true → isLetter (c.toNat : Int) = false ∧ isDigit (c.toNat : Int) = false ∧ isBlank c = false ∧ c ≠ 123 := by
    intro c hc
    simp only [onesL, List.contains_cons, List.contains_nil, Bool.or_false, Bool.or_eq_true, beq_iff_eq] at hc
    rcases hc with rfl | rfl | rfl | rfl | rfl | rfl | rfl | rfl | rfl | rfl | rfl | rfl | rfl | rfl <;> decide
  obtain ⟨m1, m2, m3, m4⟩ := hm c h1
  have ht : tokR (c :: l) = (⟨3, [c], 0⟩, 1, 0) := by
    simp only [tokR]
    rw [m1, if_neg (by simp), m2, if_neg (by simp), hone, if_neg (by simp)]
    rfl
  rw [scanD_cons, m3, if_neg (by simp), if_neg m4, ht, if_neg (by simp)]
  rfl
end Go.Proofs.YteddjcpaeoceeaaDoor.Sc
namespace Go.Proofs.YteddjcpaeoceeaaDoor.Sc
open Go Go.Sx Go.Sx.Chunk
set_option linter.unusedVariables false
set_option linter.unusedSimpArgs false

theorem bytC_dig (n : Nat) (v : Int) (hv : v = ((48 + n % 10 : Nat) : Int)) : [Value.int .u8 v] = bytC (bs [dig n]) ++ [] := by
  rw [hv]
  simp only [bytC, bs, List.map_cons, List.map_nil, List.append_nil, dig_nat]
theorem bs_one (n : Nat) : 1 = (bs [dig n]).size := rfl
set_option maxHeartbeats 1000000 in
theorem digitsC (n : Nat) (hn : n ≤ 1000000000) : FnC (α := Unit) Tryd.prog 8 [.int .i64 n] [] [] (fun _ => .string (bs (digL n))) (fun _ => []) (fun _ => True) := by
  refine fn_intro Tryd.func8 Tryd.ntmps8 rfl rfl rfl (fun w0 => ?_)
  try simp only [List.cons_append, List.nil_append, List.append_nil]
  have h1 : [Value.int .u8 (48 + (n : Int) % 10)] = bytC (bs [dig n]) ++ [] := bytC_dig n _ (by omega)
  have h2 := bs_one n
  refine rr ?_
  intro b _
  refine rr ?_
  refine w_sub [] rfl ?_
  refine w_loop (α := Nat × List UInt8) (fun x => [(0, .int .i64 (x.1 : Int)), (3, .string (bs x.2))]) (fun _ => []) (fun x => x.1 ≤ n ∧ x.2.length + x.1 ≤ n + 1 ∧ digL n = (if 10 ≤ x.1 then digL (x.1 / 10) else []) ++ x.2) (fun x => x.1) (n, [dig n]) ⟨rfl, rfl, trivial⟩ rfl ⟨Nat.le_refl _, by simp; omega, ?_⟩ ?_
  · dsimp only
    split
    · rename_i h; rw [digL_hi h]
    · rename_i h; rw [digL_lo (by omega)]; rfl
  rintro ⟨m, l⟩ ⟨hm, hl, hd⟩ K1 hK1
  dsimp only at hm hl hd ⊢
  by_cases h10 : 10 ≤ m
  · rw [if_pos h10] at hd
    have h1 : [Value.int .u8 (48 + (m : Int) / 10 % 10)] = bytC (bs [dig (m / 10)]) ++ [] := bytC_dig (m / 10) _ (by omega)
    have h2 := bs_one (m / 10)
    have h3 := bs_size l
    refine rr ?_
    intro b _
    refine rr ?_
    refine w_sub [] rfl ?_
    refine w_round hK1 (m / 10, dig (m / 10) :: l) ⟨by show m / 10 ≤ n; omega, by simp; omega, ?_⟩ (by show m / 10 < m; omega) rfl ⟨rfl, ?_, trivial⟩
    · show digL n = (if 10 ≤ m / 10 then digL (m / 10 / 10) else []) ++ dig (m / 10) :: l
      rw [hd]
      split
      · rename_i h; rw [digL_hi h]; simp
      · rename_i h; rw [digL_lo (by omega)]; rfl
    · show some (Value.string (bs [dig (m / 10)] ++ bs l)) = _
      rw [Cm.bs_app]; rfl
  · rw [if_neg h10, List.nil_append] at hd
    subst hd
    refine rr ?_
    exact we () [] trivial
end Go.Proofs.YteddjcpaeoceeaaDoor.Sc
namespace Go.Proofs.YteddjcpaeoceeaaDoor.Cm
open Go
set_option linter.unusedVariables false
set_option linter.unusedSimpArgs false
def kw (l : List UInt8) : Sc.Tk × Nat := (⟨1, l, 0⟩, 0)
def sg (l : List UInt8) : Sc.Tk × Nat := (⟨3, l, 0⟩, 0)
def nu (n : Nat) : Sc.Tk × Nat := (⟨2, [], n⟩, 0)
def at0 (l : List (Sc.Tk × Nat)) : List (Sc.Tk × Nat) := l.map fun t => (t.1, 0)
/-- A text has just these tokens, wherever they stand. -/
def S0 (l : List UInt8) (ts : List (Sc.Tk × Nat)) : Prop := ∀ p, (Sc.scanD p l).2.2 = 0 ∧ at0 (Sc.scanD p l).1 = ts
theorem s0_cons {l m : List UInt8} {ts : List (Sc.Tk × Nat)} {t : Sc.Tk} {k : Nat} (h : S0 m ts) (hs : ∀ p, Sc.scanD p l = Sc.consT (t, p) (Sc.scanD (p + k) m)) : S0 l ((t, 0) :: ts) := by
  intro p
  obtain ⟨h1, h2⟩ := h (p + k)
  rw [hs]
  unfold Sc.consT
  rw [if_pos h1]
  exact ⟨h1, by simp only [at0, List.map_cons] at h2 ⊢; rw [h2]⟩
theorem s0_nil : S0 [] [] := fun p => ⟨rfl, rfl⟩
theorem s0_blank {l : List UInt8} {ts : List (Sc.Tk × Nat)} (h : S0 l ts) : S0 (32 :: l) ts := fun p => by rw [Sc.scan_blank]; exact h (p + 1)
theorem s0_name {c : UInt8} {w : List UInt8} {x : UInt8} {l : List UInt8} {ts : List (Sc.Tk × Nat)} (h : S0 (x :: l) ts) (hc : Sc.isLetter (c.toNat : Int) = true) (hall : ∀ b ∈ c :: w, Sc.isLD (b.toNat : Int) = true) (hlow : (c :: w).map Sc.lowB = c :: w) (hlen : (c :: w).length ≤ 16) (hx : Sc.isLD (x.toNat : Int) = false) : S0 (c :: w ++ x :: l) (kw (c :: w) :: ts) :=
  s0_cons h fun p => Sc.scan_name c w x l p hc hall hlow hlen hx
theorem s0_num {n : Nat} {x : UInt8} {l : List UInt8} {ts : List (Sc.Tk × Nat)} (h : S0 (x :: l) ts) (hn : n ≤ 32767) (hx : Sc.isDigit (x.toNat : Int) = false) : S0 (Sc.digL n ++ x :: l) (nu n :: ts) :=
  s0_cons h fun p => Sc.scan_num n x l p hn hx
theorem s0_sign {c : UInt8} {l : List UInt8} {ts : List (Sc.Tk × Nat)} (h : S0 l ts) (h1 : Sc.onesL.contains c = true) (h2 : c ≠ 58 ∧ c ≠ 60 ∧ c ≠ 62) : S0 (c :: l) (sg [c] :: ts) :=
  s0_cons h fun p => Sc.scan_sign c l p h1 h2
def vN (i : Nat) : List UInt8 := 118 :: Sc.digL i
/-- The tokens, and the bytes, of one declaration. -/
def pT (p : Nat × Nat) : List (Sc.Tk × Nat) := if p.1 = 0 then [kw [118, 97, 114], kw (vN p.2), sg [59]] else [kw [118, 97, 114], kw (vN p.2), sg [91], nu p.1, sg [93], sg [59]]
def pB (p : Nat × Nat) : List UInt8 := if p.1 = 0 then [118, 97, 114, 32, 118] ++ Sc.digL p.2 ++ [59, 32] else [118, 97, 114, 32, 118] ++ Sc.digL p.2 ++ [91] ++ Sc.digL p.1 ++ [93, 59, 32]
theorem s0_vn {i : Nat} {x : UInt8} {l : List UInt8} {ts : List (Sc.Tk × Nat)} (h : S0 (x :: l) ts) (hi : i < 20) (hx : Sc.isLD (x.toNat : Int) = false) : S0 (118 :: (Sc.digL i ++ x :: l)) (kw (vN i) :: ts) := by
  have hd := Sc.digL_all i
  have hl := (Sc.digL_len i).2 (by omega)
  exact s0_name h (by decide) (fun b hb => by
    rcases List.mem_cons.1 hb with rfl | hb
    · decide
    · unfold Sc.isLD; rw [hd b hb]; simp) (by rw [List.map_cons, Sc.digit_low hd]; rfl) (by simp only [List.length_cons]; omega) hx
theorem s0_piece {p : Nat × Nat} {l : List UInt8} {ts : List (Sc.Tk × Nat)} (h : S0 l ts) (hi : p.2 < 20) (hn : p.1 < 1000) : S0 (pB p ++ l) (pT p ++ ts) := by
  unfold pB pT
  by_cases h0 : p.1 = 0
  · rw [if_pos h0, if_pos h0]
    have h1 : S0 (59 :: 32 :: l) (sg [59] :: ts) := s0_sign (s0_blank h) (by decide) (by decide)
    have h2 := s0_vn h1 hi (by decide)
    have h3 : S0 (118 :: [97, 114] ++ 32 :: (118 :: (Sc.digL p.2 ++ 59 :: 32 :: l))) (kw (118 :: [97, 114]) :: kw (vN p.2) :: sg [59] :: ts) := s0_name (s0_blank h2) (by decide) (by decide) (by decide) (by decide) (by decide)
    simpa using h3
  · rw [if_neg h0, if_neg h0]
    have h1 : S0 (93 :: 59 :: 32 :: l) (sg [93] :: sg [59] :: ts) := s0_sign (s0_sign (s0_blank h) (by decide) (by decide)) (by decide) (by decide)
    have h2 : S0 (91 :: (Sc.digL p.1 ++ 93 :: 59 :: 32 :: l)) (sg [91] :: nu p.1 :: sg [93] :: sg [59] :: ts) := s0_sign (s0_num h1 (by omega) (by decide)) (by decide) (by decide)
    have h3 := s0_vn h2 hi (by decide)
    have h4 : S0 (118 :: [97, 114] ++ 32 :: (118 :: (Sc.digL p.2 ++ 91 :: (Sc.digL p.1 ++ 93 :: 59 :: 32 :: l)))) (kw (118 :: [97, 114]) :: kw (vN p.2) :: sg [91] :: nu p.1 :: sg [93] :: sg [59] :: ts) := s0_name (s0_blank h3) (by decide) (by decide) (by decide) (by decide) (by decide)
    simpa using h4
def hdT : List UInt8 := [109, 111, 100, 117, 108, 101, 32, 97, 59, 32]
def enT : List UInt8 := [101, 110, 100, 46]
/-- The whole text. -/
def dataT (ps : List (Nat × Nat)) : List UInt8 := hdT ++ ps.flatMap pB ++ enT
def dataK (ps : List (Nat × Nat)) : List (Sc.Tk × Nat) := [kw [109, 111, 100, 117, 108, 101], kw [97], sg [59]] ++ ps.flatMap pT ++ [kw [101, 110, 100], sg [46]]
theorem s0_pieces : ∀ (ps : List (Nat × Nat)), (∀ p ∈ ps, p.1 < 1000 ∧ p.2 < 20) → S0 (ps.flatMap pB ++ enT) (ps.flatMap pT ++ [kw [101, 110, 100], sg [46]])
  | [], _ => by
    have h1 : S0 [46] [sg [46]] := s0_sign s0_nil (by decide) (by decide)
    have h2 : S0 (101 :: [110, 100] ++ 46 :: []) (kw (101 :: [110, 100]) :: [sg [46]]) := s0_name h1 (by decide) (by decide) (by decide) (by decide) (by decide)
    exact h2
  | p :: ps, h => by
    have ih := s0_pieces ps (fun q hq => h q (by simp [hq]))
    have := s0_piece ih (h p (by simp)).2 (h p (by simp)).1
    simpa using this
theorem s0_data (ps : List (Nat × Nat)) (h : ∀ p ∈ ps, p.1 < 1000 ∧ p.2 < 20) : S0 (dataT ps) (dataK ps) := by
  have h1 : S0 (59 :: 32 :: (ps.flatMap pB ++ enT)) (sg [59] :: (ps.flatMap pT ++ [kw [101, 110, 100], sg [46]])) := s0_sign (s0_blank (s0_pieces ps h)) (by decide) (by decide)
  have h2 : S0 (97 :: [] ++ 59 :: 32 :: (ps.flatMap pB ++ enT)) (kw (97 :: []) :: sg [59] :: (ps.flatMap pT ++ [kw [101, 110, 100], sg [46]])) := s0_name h1 (by decide) (by decide) (by decide) (by decide) (by decide)
  have h3 : S0 (109 :: [111, 100, 117, 108, 101] ++ 32 :: (97 :: [] ++ 59 :: 32 :: (ps.flatMap pB ++ enT))) (kw (109 :: [111, 100, 117, 108, 101]) :: kw (97 :: []) :: sg [59] :: (ps.flatMap pT ++ [kw [101, 110, 100], sg [46]])) := s0_name (s0_blank h2) (by decide) (by decide) (by decide) (by decide) (by decide)
  unfold dataT dataK hdT
  simpa using h3
/-- All places are nought. -/
def shO : Pm := ⟨fun _ => 0, fun _ _ => Int.le_refl 0⟩
/-- The object of a text whose tokens are known, if none is wrong. -/
theorem comp_toks {s : List UInt8} {ts : List (Sc.Tk × Nat)} (h : S0 s ts) {q : CS} (hq : mProgram (ts.length + 1) (cs0 ts 0) = q) (he : q.e = 0) (hc : q.code.length ≤ 4096) : (compF s).2.2 = 0 ∧ (compF s).2.1 = 0 ∧ compF s = (some ⟨q.name, q.code, q.data, q.exps, q.imps, q.pats⟩, 0, 0) := by
  obtain ⟨h1, h2⟩ := h 0
  have key : compF s = (some ⟨q.name, q.code, q.data, q.exps, q.imps, q.pats⟩, 0, 0) := by
    unfold compF
    generalize Sc.scanD 0 s = r at *
    obtain ⟨l, pl, e⟩ := r
    dsimp only at h1 h2
    subst h1
    dsimp only
    rw [if_neg (by simp)]
    have hs : cs0 ts 0 = sh shO (cs0 l (s.length : Int)) := by
      rw [← h2]; unfold cs0 sh shO at0; simp
    have hl : ts.length = l.length := by rw [← h2]; simp [at0]
    have hp := program_sh (d := shO) (l.length + 1) (cs0 l (s.length : Int))
    rw [← hs, ← hl, hq] at hp
    rw [← hl]
    generalize mProgram (ts.length + 1) (cs0 l (s.length : Int)) = q2 at *
    have e2 : q2.e = 0 := by have := congrArg CS.e hp; rw [e_sh] at this; rw [← this]; exact he
    have c2 : q2.code = q.code := (congrArg CS.code hp).symm
    rw [if_neg (show ¬ (q2.e = 0 ∧ q2.code.length > 4096) by rw [c2]; omega), if_neg (show ¬ (q2.e ≠ 0) by simpa using e2)]
    rw [hp]
    rfl
  rw [key]
  exact ⟨rfl, rfl, rfl⟩
end Go.Proofs.YteddjcpaeoceeaaDoor.Cm
namespace Go.Proofs.YteddjcpaeoceeaaDoor.Cm
open Go
set_option linter.unusedVariables false
set_option linter.unusedSimpArgs false
def dS (toks : List (Sc.Tk × Nat)) (ents : List (ByteArray × Th)) (data : Int) : CS := ⟨toks, 0, [], [], 0, ents, [0], Sc.bs [97], data, [], [], 0, 0, 0, 0⟩
theorem decD0 (i : Nat) : decD [0] i 1 = 1 := by simp [decD]
theorem find_no (es : List (ByteArray × Th)) (name : ByteArray) : ∀ i, i ≤ es.length → name ∉ (es.take i).map Prod.fst → (findG es [0] name i 1).2.2 = false
  | 0, _, _ => rfl
  | i + 1, hi, h => by
    simp only [findG, decD0]
    have hlt : i < es.length := hi
    have hg : es.getD i (.empty, th0) = es[i] := by simp [hlt]
    rw [hg]
    rw [List.take_succ_eq_append_getElem hlt, List.map_append, List.mem_append] at h
    rw [if_neg (fun he => h (.inr (by simp [he])))]
    exact find_no es name i (by omega) (fun hm => h (.inl hm))
theorem defOk_new {nm : List UInt8} {toks : List (Sc.Tk × Nat)} {ents : List (ByteArray × Th)} {data : Int} (h : Sc.bs nm ∉ ents.map Prod.fst) : mDefOk nm (dS toks ents data) = true := by
  have := find_no ents (Sc.bs nm) ents.length (Nat.le_refl _) (by rwa [List.take_length])
  unfold mDefOk mFind dS
  show ((1 : Nat) != 0 && !((findG ents [0] (Sc.bs nm) ents.length 1).2.2 && _)) = true
  rw [this]
  rfl
theorem def_new {nm : List UInt8} (t : Th) {toks : List (Sc.Tk × Nat)} {ents : List (ByteArray × Th)} {data : Int} (h : Sc.bs nm ∉ ents.map Prod.fst) : mDef nm t (dS toks ents data) = dS toks (ents ++ [(Sc.bs nm, t)]) data := by
  unfold mDef; rw [if_pos (defOk_new h)]; rfl
theorem define_new {nm : List UInt8} (pl : Int) (t : Th) {toks : List (Sc.Tk × Nat)} {ents : List (ByteArray × Th)} {data : Int} (h : Sc.bs nm ∉ ents.map Prod.fst) : mDefine nm pl t (dS toks ents data) = dS toks (ents ++ [(Sc.bs nm, t)]) data := by
  unfold mDefine
  rw [if_pos (show (dS toks ents data).e = 0 from rfl), if_pos (defOk_new h), def_new t h]
theorem defs_new : ∀ (l : List (ByteArray × Th)) (toks : List (Sc.Tk × Nat)) (ents : List (ByteArray × Th)) (data : Int), ((ents ++ l).map Prod.fst).Nodup → mDefs (dS toks ents data) l = dS toks (ents ++ l) data
  | [], toks, ents, data, _ => by simp [mDefs]
  | e :: l, toks, ents, data, h => by
    have hb : Sc.bs (Sc.txt e.1) = e.1 := Sc.bs_txt e.1
    have hn : Sc.bs (Sc.txt e.1) ∉ ents.map Prod.fst := by
      rw [hb]
      rw [List.map_append, List.nodup_append] at h
      intro hm
      exact h.2.2 _ hm _ (by simp) rfl
    unfold mDefs
    rw [def_new e.2 hn, hb]
    have := defs_new l toks (ents ++ [(e.1, e.2)]) data (by simpa using h)
    simpa using this
theorem redefine_new {nm : List UInt8} {t : Th} {toks : List (Sc.Tk × Nat)} {ents : List (ByteArray × Th)} {data : Int} (h : (ents.map Prod.fst).Nodup) : ∃ es, mRedefine nm t (dS toks ents data) = dS toks es data ∧ es.map Prod.fst = ents.map Prod.fst := by
  have hm : ((ents.map fun e => if e.1 = Sc.bs nm then (e.1, t) else e).map Prod.fst) = ents.map Prod.fst := by
    rw [List.map_map]
    refine List.map_congr_left fun e _ => ?_
    simp only [Function.comp]
    split <;> rfl
  refine ⟨ents.map fun e => if e.1 = Sc.bs nm then (e.1, t) else e, ?_, hm⟩
  have h1 := defs_new (ents.map fun e => if e.1 = Sc.bs nm then (e.1, t) else e) toks [] data (by rw [List.nil_append, hm]; exact h)
  rw [List.nil_append] at h1
  exact h1
theorem name_new {nm : List UInt8} {r : List (Sc.Tk × Nat)} {ents : List (ByteArray × Th)} {data : Int} (h : isWord nm = false) : mName (dS (kw nm :: r) ents data) = (nm, dS r ents data) := by
  unfold mName
  rw [if_pos (by show (decide ((1 : Int) = 1) && !isWord nm) = true; rw [h]; rfl)]
  rfl
theorem var_plain {nm : List UInt8} {r : List (Sc.Tk × Nat)} {ents : List (ByteArray × Th)} {data : Int} (hw : isWord nm = false) (hn : Sc.bs nm ∉ ents.map Prod.fst) (hd : data < 32000) : mVariable (dS (kw nm :: sg [59] :: r) ents data) = dS r (ents ++ [(Sc.bs nm, ⟨0, data, 1, false⟩)]) (data + 1) := by
  rw [variable_eq]
  dsimp only
  rw [name_new hw]
  dsimp only
  rw [show (dS (sg [59] :: r) ents data).data = data from rfl, define_new _ _ hn, show mSees [91] (dS (sg [59] :: r) (ents ++ [(Sc.bs nm, ⟨0, data, 1, false⟩)]) data) = false from rfl, if_neg Bool.false_ne_true, if_neg (by show ¬ (_ ∧ data = 32000); omega)]
  rfl
theorem var_list {nm : List UInt8} {n : Nat} {r : List (Sc.Tk × Nat)} {ents : List (ByteArray × Th)} {data : Int} (hw : isWord nm = false) (hn : Sc.bs nm ∉ ents.map Prod.fst) (hnd : (ents.map Prod.fst).Nodup) (h1 : 1 ≤ n ∧ n ≤ 2000) (hd : data + n ≤ 32000) : ∃ es, mVariable (dS (kw nm :: sg [91] :: nu n :: sg [93] :: sg [59] :: r) ents data) = dS r es (data + n) ∧ es.map Prod.fst = ents.map Prod.fst ++ [Sc.bs nm] := by
  obtain ⟨es, he, hes⟩ := redefine_new (nm := nm) (t := ⟨1, data, (n : Int), false⟩) (toks := sg [93] :: sg [59] :: r) (ents := ents ++ [(Sc.bs nm, ⟨0, data, 1, false⟩)]) (data := data) (by
    rw [List.map_append, List.nodup_append]
    refine ⟨hnd, by simp, ?_⟩
    intro a ha b hb
    simp at hb
    subst hb
    intro hab
    subst hab
    exact hn ha)
  refine ⟨es, ?_, by rw [hes]; simp⟩
  rw [variable_eq]
  dsimp only
  rw [name_new hw]
  dsimp only
  rw [show (dS (sg [91] :: nu n :: sg [93] :: sg [59] :: r) ents data).data = data from rfl, define_new _ _ hn, if_pos (by rfl)]
  rw [show mNumber (mTail (dS (sg [91] :: nu n :: sg [93] :: sg [59] :: r) (ents ++ [(Sc.bs nm, ⟨0, data, 1, false⟩)]) data)) = ((n : Int), dS (sg [93] :: sg [59] :: r) (ents ++ [(Sc.bs nm, ⟨0, data, 1, false⟩)]) data) from rfl]
  dsimp only
  rw [if_neg (by intro h; exact h rfl), if_neg (by omega), if_neg (by show ¬ (data + (n : Int) > 32000); omega), he]
  rfl
theorem vN_word : ∀ i, i < 20 → isWord (vN i) = false := by decide
theorem bsv_inj {i j : Nat} (h : Sc.bs (vN i) = Sc.bs (vN j)) : i = j := by
  have h2 := Sc.bs_inj.1 h
  unfold vN at h2
  have h3 : Sc.valL (Sc.digL i) 0 = Sc.valL (Sc.digL j) 0 := congrArg (fun l => Sc.valL l 0) (List.cons.inj h2).2
  rw [Sc.valL_digL, Sc.valL_digL] at h3
  omega
theorem decls_var (N m : Nat) {s : CS} (he : s.e = 0) (hs : mSees [118, 97, 114] s = true) : mDecls N (m + 1) s = mDecls N m (mVariable (mTail s)) := by
  rw [mDecls, if_pos he, if_pos hs]
def wordsD (ps : List (Nat × Nat)) : Int := (ps.map fun p => if p.1 = 0 then (1 : Int) else (p.1 : Int)).sum
theorem wordsD_pos (ps : List (Nat × Nat)) : 0 ≤ wordsD ps := by
  induction ps with
  | nil => exact Int.le_refl 0
  | cons p ps ih =>
    unfold wordsD at ih ⊢
    simp only [List.map_cons, List.sum_cons]
    split <;> omega
theorem decls_data (N : Nat) : ∀ (ps : List (Nat × Nat)) (m : Nat) (ents : List (ByteArray × Th)) (data : Int), ps.length ≤ m → (∀ p ∈ ps, p.1 < 1000 ∧ p.2 < 20) → (ents.map Prod.fst ++ ps.map fun p => Sc.bs (vN p.2)).Nodup → 0 ≤ data → data + wordsD ps ≤ 32000 →
    ∃ es, mDecls N m (dS (ps.flatMap pT ++ [kw [101, 110, 100], sg [46]]) ents data) = dS [kw [101, 110, 100], sg [46]] es (data + wordsD ps)
  | [], m, ents, data, _, _, _, _, _ => by
    refine ⟨ents, ?_⟩
    rw [show data + wordsD [] = data by simp [wordsD]]
    cases m <;> rfl
  | p :: ps, 0, ents, data, hm, _, _, _, _ => by simp at hm
  | p :: ps, m + 1, ents, data, hm, hp, hn, h0, hd => by
    have hp0 := hp p (by simp)
    have hwp := wordsD_pos ps
    have hw : wordsD (p :: ps) = (if p.1 = 0 then (1 : Int) else (p.1 : Int)) + wordsD ps := by simp [wordsD]
    rw [hw] at hd ⊢
    have hn1 : Sc.bs (vN p.2) ∉ ents.map Prod.fst := by
      rw [List.nodup_append] at hn
      intro hm
      exact hn.2.2 _ hm _ (by simp) rfl
    have hn0 : (ents.map Prod.fst).Nodup := (List.nodup_append.1 hn).1
    have hn2 : ((ents.map Prod.fst ++ [Sc.bs (vN p.2)]) ++ ps.map fun p => Sc.bs (vN p.2)).Nodup := by simpa using hn
    rw [List.flatMap_cons]
    by_cases hz : p.1 = 0
    · rw [if_pos hz] at hd ⊢
      rw [show pT p = [kw [118, 97, 114], kw (vN p.2), sg [59]] by unfold pT; rw [if_pos hz]]
      obtain ⟨es, he⟩ := decls_data N ps m (ents ++ [(Sc.bs (vN p.2), ⟨0, data, 1, false⟩)]) (data + 1) (by simpa using hm) (fun q hq => hp q (by simp [hq])) (by simpa using hn2) (by omega) (by omega)
      refine ⟨es, ?_⟩
      rw [← Int.add_assoc, ← he]
      rw [decls_var N m rfl rfl]
      have hv := var_plain (r := ps.flatMap pT ++ [kw [101, 110, 100], sg [46]]) (data := data) (vN_word _ hp0.2) hn1 (by omega)
      rw [← hv]
      rfl
    · rw [if_neg hz] at hd ⊢
      rw [show pT p = [kw [118, 97, 114], kw (vN p.2), sg [91], nu p.1, sg [93], sg [59]] by unfold pT; rw [if_neg hz]]
      obtain ⟨es0, hv, hes⟩ := var_list (n := p.1) (r := ps.flatMap pT ++ [kw [101, 110, 100], sg [46]]) (data := data) (vN_word _ hp0.2) hn1 hn0 (by omega) (by omega)
      obtain ⟨es, he⟩ := decls_data N ps m es0 (data + p.1) (by simpa using hm) (fun q hq => hp q (by simp [hq])) (by rw [hes]; exact hn2) (by omega) (by omega)
      refine ⟨es, ?_⟩
      rw [← Int.add_assoc, ← he]
      rw [decls_var N m rfl rfl]
      rw [← hv]
      rfl
theorem data_comp (ps : List (Nat × Nat)) (hp : ∀ p ∈ ps, p.1 < 1000 ∧ p.2 < 20) (hn : (ps.map fun p => Sc.bs (vN p.2)).Nodup) (hd : wordsD ps ≤ 32000) : ∃ o, compF (dataT ps) = (some o, 0, 0) ∧ o.name = Sc.bs [97] ∧ o.code = [] ∧ o.data = wordsD ps := by
  obtain ⟨es, he⟩ := decls_data ((dataK ps).length + 1) ps (ps.flatMap pT ++ [kw [101, 110, 100], sg [46]]).length [] 0 (by
    rw [List.length_append, List.length_flatMap]
    have : ∀ l : List (Nat × Nat), l.length ≤ (l.map fun a => (pT a).length).sum := fun l => by
      induction l with
      | nil => exact Nat.le_refl 0
      | cons a l ih =>
        simp only [List.map_cons, List.sum_cons, List.length_cons]
        have : 1 ≤ (pT a).length := by unfold pT; split <;> simp
        omega
    have := this ps
    omega) hp (by simpa using hn) (Int.le_refl 0) (by omega)
  have hq : mProgram ((dataK ps).length + 1) (cs0 (dataK ps) 0) = dS [] es (0 + wordsD ps) := by
    rw [program_eq, show mSees [112, 114, 111, 103, 114, 97, 109] (cs0 (dataK ps) 0) = false from rfl, if_neg Bool.false_ne_true]
    have h1 : mHead (mMust [109, 111, 100, 117, 108, 101] (cs0 (dataK ps) 0)) = dS (ps.flatMap pT ++ [kw [101, 110, 100], sg [46]]) [] 0 := by rfl
    rw [h1]
    rw [show (dS (ps.flatMap pT ++ [kw [101, 110, 100], sg [46]]) [] 0).toks.length = (ps.flatMap pT ++ [kw [101, 110, 100], sg [46]]).length from rfl, he]
    rfl
  obtain ⟨-, -, h⟩ := comp_toks (s0_data ps hp) hq rfl (Nat.zero_le _)
  exact ⟨_, h, rfl, rfl, by show 0 + wordsD ps = _; omega⟩
end Go.Proofs.YteddjcpaeoceeaaDoor.Cm
namespace Go.Proofs.YteddjcpaeoceeaaDoor
open Go
def u16V (n : Int) : List Value := [.int .u16 n]
def i32V (n : Int) : List Value := [.int .i32 n]
def i64V (n : Int) : List Value := [.int .i64 n]
end Go.Proofs.YteddjcpaeoceeaaDoor
namespace Go.Proofs.YteddjcpaeoceeaaDoor.Cm
open Go Go.Sx Go.Sx.Chunk
set_option linter.unusedVariables false
set_option linter.unusedSimpArgs false
/-- What the numbers of the law declare. -/
def psL (l : List Int) : List (Nat × Nat) := (l.map fun z => (z % 1000).toNat).zipIdx
theorem psL_snoc {l : List Int} {k : Nat} {z : Int} (h : l[k]? = some z) : psL (l.take (k + 1)) = psL (l.take k) ++ [((z % 1000).toNat, k)] := by
  have hk : k < l.length := (List.getElem?_eq_some_iff.1 h).1
  unfold psL
  rw [List.take_add_one, h, Option.toList_some, List.map_append, List.zipIdx_append]
  simp
  omega
theorem psL_mem {l : List Int} {k : Nat} (hk : k ≤ 20) : ∀ p ∈ psL (l.take k), p.1 < 1000 ∧ p.2 < 20 := by
  intro p hp
  unfold psL at hp
  have h1 := List.snd_lt_of_mem_zipIdx hp
  have h2 := List.fst_mem_of_mem_zipIdx hp
  simp only [List.length_map, List.length_take] at h1
  obtain ⟨z, _, hz⟩ := List.mem_map.1 h2
  omega
theorem psL_nodup (l : List Int) : ((psL l).map fun p => Sc.bs (vN p.2)).Nodup := by
  have h : (psL l).map (fun p => Sc.bs (vN p.2)) = (List.range (psL l).length).map fun i => Sc.bs (vN i) := by
    have h2 : (psL l).map Prod.snd = List.range (psL l).length := by
      unfold psL
      rw [List.zipIdx_map_snd, List.range_eq_range']
      simp
    rw [← h2, List.map_map]; rfl
  rw [h, List.nodup_iff_pairwise_ne, List.pairwise_map]
  refine List.Pairwise.imp (fun {a b} hab he => hab (bsv_inj he)) (List.nodup_iff_pairwise_ne.1 List.nodup_range)
theorem wordsD_snoc (ps : List (Nat × Nat)) (p : Nat × Nat) : wordsD (ps ++ [p]) = wordsD ps + (if p.1 = 0 then (1 : Int) else (p.1 : Int)) := by simp [wordsD]
theorem wordsD_le {l : List Int} : ∀ k, wordsD (psL (l.take k)) ≤ 1000 * (k : Int)
  | 0 => by simp [psL, wordsD]
  | k + 1 => by
    have ih := wordsD_le (l := l) k
    by_cases hk : k < l.length
    · rw [psL_snoc (List.getElem?_eq_getElem hk), wordsD_snoc]
      dsimp only
      split <;> omega
    · rw [List.take_of_length_le (by omega)] at ih ⊢
      omega
theorem pB_len {p : Nat × Nat} (h : p.1 < 1000 ∧ p.2 < 20) : (pB p).length ≤ 20 := by
  have h1 := (Sc.digL_len p.1).2 (by omega)
  have h2 := (Sc.digL_len p.2).2 (by omega)
  unfold pB
  split <;> simp <;> omega
theorem bs_pB0 {p : Nat × Nat} (h : p.1 = 0) : Sc.bs (pB p) = ⟨#[118, 97, 114, 32, 118]⟩ ++ Sc.bs (Sc.digL p.2) ++ ⟨#[59, 32]⟩ := by
  unfold pB; rw [if_pos h, ← bs_app, ← bs_app]; rfl
theorem bs_pB1 {p : Nat × Nat} (h : ¬ p.1 = 0) : Sc.bs (pB p) = ⟨#[118, 97, 114, 32, 118]⟩ ++ Sc.bs (Sc.digL p.2) ++ ⟨#[91]⟩ ++ Sc.bs (Sc.digL p.1) ++ ⟨#[93, 59, 32]⟩ := by
  unfold pB; rw [if_neg h, ← bs_app, ← bs_app, ← bs_app, ← bs_app]; rfl
set_option maxHeartbeats 4000000 in
set_option maxRecDepth 100000 in
theorem data_spec (ao : Option Addr) (cap : Nat) (l : List Int) (hl : l.length ≤ maxLen) (hz : ∀ z ∈ l, 0 ≤ z ∧ z ≤ 65535) : FnC (α := Unit) Tryd.prog 4 [.slice ao l.length cap] [] [rng ao (l.flatMap u16V), spaceV] (fun _ => .bool true) (fun _ => []) (fun _ => True) := by
  have haw := awakeC
  refine fn_intro Tryd.func4 Tryd.ntmps4 rfl rfl rfl (fun w0 => ?_)
  try simp only [List.cons_append, List.nil_append, List.append_nil]
  refine rr ?_
  refine lo [0] (fun z : Nat × ByteArray => [(3, .string z.2), (4, .int .i64 (wordsD (psL (l.take z.1)))), (5, .int .i64 (z.1 : Int))]) (fun z => []) (fun z => z.1 ≤ l.length ∧ z.1 ≤ 20 ∧ z.2 = Sc.bs (hdT ++ (psL (l.take z.1)).flatMap pB) ∧ z.2.size ≤ 10 + 20 * z.1) (fun z => 20 - z.1) (0, Sc.bs hdT) ⟨Nat.zero_le _, Nat.zero_le _, by simp [psL], by decide +kernel⟩ ?_
  rintro ⟨k, a⟩ ⟨hkl, hk, ha, hsz⟩ K1 hK1
  dsimp only at hkl hk ha hsz ⊢
  have hwl := wordsD_le (l := l) k
  have hw0 := wordsD_pos (psL (l.take k))
  by_cases h20 : k < l.length ∧ k < 20
  · obtain ⟨hlt, hlt2⟩ := h20
    obtain ⟨z, he⟩ := some_at hlt
    have hzz := hz z (List.mem_of_getElem? he)
    have hget : (l.flatMap u16V)[(k : Int).toNat * 1]? = some (.int .u16 z) := by
      have h := flat_at (cells := u16V) (sz := 1) (fun _ => rfl) he (show 0 < 1 by decide)
      exact h
    have hll : (l.flatMap u16V).length = l.length := by
      have h := flat_len (cells := u16V) (sz := 1) (fun _ => rfl) l
      omega
    have hsn := psL_snoc he
    obtain ⟨n, hn⟩ : ∃ n : Nat, (z % 1000).toNat = n := ⟨_, rfl⟩
    have hnz : (n : Int) = z % 1000 := by omega
    rw [hn] at hsn
    have hsz2 := pB_len (p := (n, k)) ⟨by dsimp only; omega, hlt2⟩
    have hd1 := Sc.digitsC k (by omega)
    have hd2 := Sc.digitsC n (by omega)
    rw [hnz] at hd2
    have hL1 := (Sc.digL_len k).2 (by omega)
    have hL2 := (Sc.digL_len n).2 (by omega)
    have hs1 : (Sc.bs (Sc.digL k)).size ≤ 5 := by rw [Sc.bs_size]; exact hL1
    have hs2 : (Sc.bs (Sc.digL n)).size ≤ 5 := by rw [Sc.bs_size]; exact hL2
    refine w_use (fun w hw => (hw.pick 0 rfl).rng_some (by omega)) ?_
    rintro ⟨g1, rfl⟩
    by_cases h0 : n = 0
    · have hz0 : z % 1000 = 0 := by omega
      refine rr ?_
      refine cl (hd1) ?_
      intro _ _
      try simp only [List.cons_append, List.nil_append, List.append_nil]
      refine rr ?_
      refine ro hK1 (k + 1, a ++ (⟨#[118, 97, 114, 32, 118]⟩ ++ Sc.bs (Sc.digL k) ++ ⟨#[59, 32]⟩)) ⟨by dsimp only; omega, by dsimp only; omega, ?_, ?_⟩ (hE := ?_)
      · dsimp only
        rw [← bs_pB0 (p := (n, k)) h0, ha, bs_app, hsn, List.flatMap_append, List.flatMap_singleton, List.append_assoc]
      · dsimp only
        rw [← bs_pB0 (p := (n, k)) h0, ByteArray.size_append, Sc.bs_size]; omega
      · refine ⟨rfl, ?_, rfl, rfl, trivial⟩
        rw [hsn, wordsD_snoc, if_pos h0]; rfl
    · have hz0 : ¬ z % 1000 = 0 := by omega
      refine rr ?_
      refine cl (hd1) ?_
      intro _ _
      try simp only [List.cons_append, List.nil_append, List.append_nil]
      refine rr ?_
      refine cl (hd2) ?_
      intro _ _
      try simp only [List.cons_append, List.nil_append, List.append_nil]
      refine rr ?_
      refine ro hK1 (k + 1, a ++ (⟨#[118, 97, 114, 32, 118]⟩ ++ Sc.bs (Sc.digL k) ++ ⟨#[91]⟩ ++ Sc.bs (Sc.digL n) ++ ⟨#[93, 59, 32]⟩)) ⟨by dsimp only; omega, by dsimp only; omega, ?_, ?_⟩ (hE := ?_)
      · dsimp only
        rw [← bs_pB1 (p := (n, k)) h0, ha, bs_app, hsn, List.flatMap_append, List.flatMap_singleton, List.append_assoc]
      · dsimp only
        rw [← bs_pB1 (p := (n, k)) h0, ByteArray.size_append, Sc.bs_size]; omega
      · refine ⟨rfl, ?_, rfl, rfl, trivial⟩
        rw [hsn, wordsD_snoc, if_neg h0]
        dsimp only
        rw [hnz]
        rfl
  · have hps := psL_mem (l := l) hk
    have hnd := psL_nodup (l.take k)
    obtain ⟨o, ho, hon, hoc, hod⟩ := data_comp (psL (l.take k)) hps hnd (by omega)
    have htx : Sc.txt (a ++ Sc.bs enT) = dataT (psL (l.take k)) := by
      rw [ha, bs_app, Sc.txt_bs]; rfl
    have hc := compileC (a ++ Sc.bs enT) (by rw [ByteArray.size_append, Sc.bs_size]; simp only [enT, List.length_cons, List.length_nil]; omega)
    rw [htx] at hc
    unfold compO at hc
    rw [ho] at hc
    simp only [Option.getD_some] at hc
    unfold o6G o6H at hc
    rw [hoc, show o.name = ⟨#[97]⟩ from hon, hod] at hc
    have hcase : (k < l.length ∧ ¬ k < 20) ∨ ¬ k < l.length := by omega
    rcases hcase with ⟨hk1, hk2⟩ | hk1
    all_goals
      refine rr ?_
      refine cl (hc) ?_
      intro x _
      try simp only [List.cons_append, List.nil_append, List.append_nil]
      refine rr ?_
      intro b7 _
      refine rr ?_
      refine cl (haw) ?_
      intro _ _
      try simp only [List.cons_append, List.nil_append, List.append_nil]
      refine rr ?_
      exact en () trivial
theorem data_law (ao : Option Addr) (cap : Nat) (l : List Int) (hc : l.length ≤ cap) (hm : cap ≤ maxLen) (h : ∀ z ∈ l, inK .u16 z) : FnC (α := Unit) Tryd.prog 4 [.slice ao l.length cap] [] [rng ao (l.flatMap u16V), spaceV] (fun _ => .bool true) (fun _ => []) (fun _ => True) :=
  data_spec ao cap l (Nat.le_trans hc hm) (fun z hz => by
    have := h z hz
    simpa [inK, IntKind.min, IntKind.max, IntKind.signed, IntKind.bits] using this)
end Go.Proofs.YteddjcpaeoceeaaDoor.Cm
namespace Go.Sx
open Go Chunk
set_option linter.unusedSimpArgs false
set_option linter.unusedVariables false
section
variable {H : Type} {enc : TypeId × Value → H}
/-- A row's way from its contract, where the row lays variables and the shape of the world is asked. -/
theorem handed_door {a : Assume} {C : Checked} {os : Os} {f : FuncId} {fn : Func} {s : ChangeSpec} {conds : List PathCond} {apart fresh handsOn again : Bool} {X : World → Array Value → Prop}
    (hX : ∀ (w w' : World) (args : Array Value), w.heap = w'.heap → X w args → X w' args)
    (own : ownKnob C.prog.godebug = none) (started : os.Started) (noInit : C.prog.inits.idxOf? f = none) (hfn : C.prog.funcs[f]? = some fn)
    (witness : ∃ (w : World) (tape : Tape) (i : Input), w.os = os ∧ (w.forCall tape i).Shaped C.prog ∧ i.vars = [] ∧ Input.okWide C.prog (w.forCall tape i) .any w.heap.size f i ∧
      ((s.pre enc C.prog fn conds apart (w.forCall tape i).memory i.args ∧ X (w.forCall tape i).memory i.args) ∧ sizedMet enc C.prog fn (OpenSpec.ofChange s) apart (w.forCall tape i).memory i.args) ∧ a.holds C.prog (lone (Frame.enter C.prog f i.args .normal) [] (w.forCall tape i)))
    (contract : ∀ (W : World) (base : Nat) (args : Array Value) (ds gs : List (DataW H)) (before : List MemPlace),
      (∀ (j : Nat) t v, fn.params[j]? = some t → args[j]? = some v → Value.okWide C.prog W .any base t v) →
      DataW.Whole enc C.prog fn.params.toList s.vars apart W args.toList ds gs before →
      conds.all (PathCond.test C.prog ⟨fn.params.toList, ds, s.plain.varTypes C.prog, gs⟩) = true →
      (DataW.weightsEach C.prog (fn.params.toList ++ s.plain.varTypes C.prog) (ds ++ gs)).all (· ≤ reachBytes) = true → X W args → W.ShapedOpen C.prog →
      a.holds C.prog (lone (Frame.enter C.prog f args .normal) [] W) →
      Calls C.prog f args W fun e W' => ∃ v, e = .returned v ∧ s.post enc C.prog fn apart fresh handsOn again W args v W') :
    ReturnsInHanded a C os f .any (fun w args => (s.pre enc C.prog fn conds apart w args ∧ X w args) ∧ sizedMet enc C.prog fn (OpenSpec.ofChange s) apart w args) (s.post enc C.prog fn apart fresh handsOn again) := by
  refine returnsInHanded_of_calls own started noInit witness ?_
  intro w tape i _ hsh _ hok hpre hholds
  obtain ⟨_, _, _, fn', hfn', _, _, _, _, hval⟩ := hok
  obtain rfl : fn' = fn := Option.some.inj (hfn'.symm.trans hfn)
  obtain ⟨⟨⟨ds, gs, before, hw, hc⟩, hx⟩, hz⟩ := hpre
  have hw' := DataW.Whole.of_heap (w' := w.forCall tape i) (by rfl) hw
  refine (contract (w.forCall tape i) w.heap.size i.args ds gs before hval hw' hc (hz.weights hw) (hX _ _ _ (by rfl) hx) hsh hholds).mono fun e W' ⟨v, he, hp⟩ => ?_
  subst he
  exact ChangeSpec.post_blind hp
end
/-- A variable of one whole number. -/
theorem int_of_shape {P : Program} {w : World} {g : Nat} {t : TypeId} {zero : Array Value} {k : IntKind} (h : w.ShapedOpen P) (hg : g < P.globals.size)
    (h0 : ((begin P (fun _ _ => 0) default).world.heap[g]?).bind Obj.row? = some (zero, t)) (hz : zero.size = 1)
    (hb : P.buildable t = true) (hc : P.cellTypes P.depth t = some [t]) (hu : P.underlying t = some (.int k)) : ∃ n, w.cell? ⟨g, 0, none⟩ = some (.int k n) := by
  obtain ⟨cs, hh, hs, hr⟩ := h.1 g zero t hg h0
  obtain ⟨ts, hts, _, hall⟩ := hr hb
  rw [hc] at hts
  cases hts
  have h1 : 0 < cs.size := by omega
  obtain ⟨u, hu', hok⟩ := hall 0 cs[0] (by simp [h1])
  have e : u = t := by simpa using hu'.symm
  subst e
  have hcell : w.cell? ⟨g, 0, none⟩ = some cs[0] := by simp [World.cell?, hh, h1]
  rw [hcell]
  unfold Cell.ok at hok
  rw [hu] at hok
  cases hv : cs[0] <;> rw [hv] at hok <;> first | (simp at hok; done) | skip
  rename_i k' n'
  simp only [] at hok
  refine ⟨n', ?_⟩
  have : k' = k := by simp_all
  rw [this]
theorem cell_lt {w : World} {a : Addr} {v : Value} (h : w.cell? a = some v) : a.block < w.heap.size := by
  unfold World.cell? at h
  split at h
  · rename_i hb; exact (Array.getElem?_eq_some_iff.1 hb).1
  · cases h
/-- One cell of a variable. -/
theorem seen_cell {w : World} {g : Nat} {v : Value} (h : w.cell? ⟨g, 0, none⟩ = some v) : SeenC w (rng (some ⟨g, 0, none⟩) [v]) :=
  ⟨rfl, fun j u hj => by
    cases j with
    | zero =>
      simp only [List.getElem?_cons_zero, Option.some.injEq] at hj
      subst hj
      exact ⟨_, rfl, by rw [addr_add, Nat.zero_add]; exact h⟩
    | succ j => simp at hj, fun k hk => by
    obtain ⟨_, a, ha, rfl⟩ := hk
    cases ha
    exact cell_lt h⟩
/-- A variable's cells, by its name. -/
theorem var_cells {P : Program} {w : World} {n : String} {g : Nat} {cs : Array Value} (hg : P.globalNamed n = some g) (h : w.var? P n = some cs) : ∃ t z, w.heap[g]? = some (.cells cs t z) := by
  unfold World.var? at h
  rw [hg] at h
  simp only [Option.bind_some] at h
  split at h
  · rename_i c t z hc
    simp only [Option.some.injEq] at h
    subst h
    exact ⟨_, _, hc⟩
  · cases h
end Go.Sx
namespace Go.Sx
open Go Chunk
open Go.ChangeShapes Go.WideShapes Go.RowKit
set_option linter.unusedSimpArgs false
set_option linter.unusedVariables false
section
variable {H : Type} {enc : TypeId × Value → H} {P : Program} {w : World} {base b0 : Nat} {spare : Nat → Bool} {held : Bool} {r : Reach}
/-- None of it weighs too much. -/
def Light (P : Program) (t : TypeId) (d : DataW H) : Prop := ∀ n ∈ d.weights P t, n ≤ reachBytes
def DecW (enc : TypeId × Value → H) (P : Program) (w : World) (base : Nat) (spare : Nat → Bool) (held : Bool) (t : TypeId) {α : Type} (cells : α → List Value) (ok : α → Prop) (seen : α → List Chunk) : Prop :=
  ∀ (fuel : Nat) (cs : List Value) (x : DataW H × List MemPlace), DataW.trod enc P w base spare held fuel t cs = some x → Light P t x.1 → ∃ a : α, cs = cells a ∧ ok a ∧ Seen w (seen a)
theorem decW_of {t : TypeId} {α : Type} {cells : α → List Value} {ok : α → Prop} {seen : α → List Chunk} (h : Dec enc P w base spare held t cells ok seen) : DecW enc P w base spare held t cells ok seen := fun fuel cs x hx _ => h fuel cs x hx
theorem decW_string {t : TypeId} (ht : P.underlying t = some .string) : DecW enc P w base spare held t (α := ByteArray) (fun s => [.string s]) (fun s => s.size ≤ maxLen) (fun _ => []) := decW_of (dec_string ht)
theorem DecW.iso {t : TypeId} {α β : Type} {c1 : α → List Value} {ok1 : α → Prop} {s1 : α → List Chunk} {c2 : β → List Value} {ok2 : β → Prop} {s2 : β → List Chunk} (g : α → β) (hc : ∀ a, c1 a = c2 (g a)) (ho : ∀ a, ok1 a → ok2 (g a)) (hs : ∀ a, s1 a = s2 (g a)) (h : DecW enc P w base spare held t c1 ok1 s1) : DecW enc P w base spare held t c2 ok2 s2 := fun fuel cs x hx hl => by
  obtain ⟨a, h1, h2, h3⟩ := h fuel cs x hx hl
  exact ⟨g a, by rw [h1, hc], ho a h2, by rw [← hs]; exact h3⟩
theorem weightsAll_mem {e : TypeId} : ∀ {l : List (DataW H)} {d : DataW H}, d ∈ l → ∀ n ∈ d.weights P e, n ∈ DataW.weightsAll P e l
  | [], d, h, n, hn => by simp at h
  | y :: l, d, h, n, hn => by
    simp only [DataW.weightsAll, List.mem_append]
    rcases List.mem_cons.1 h with rfl | h
    · exact .inl hn
    · exact .inr (weightsAll_mem h n hn)
theorem weightsEach_mem {fs : List Field} : ∀ {l : List (DataW H)} {i : Nat} {f : Field} {d : DataW H}, fs[i]? = some f → l[i]? = some d → ∀ n ∈ d.weights P f.type, n ∈ DataW.weightsEach P (fs.map (·.type)) l := fun {l i f d} hf hd n hn =>
  DataW.weights_mem_each (j := i) (t := f.type) (by simp [hf]) hd n hn
/-- A slice, by its elements. -/
theorem decW_slice {t e : TypeId} {α : Type} {cells : α → List Value} {ok : α → Prop} {seen : α → List Chunk} {sz bz : Nat} (ht : P.underlying t = some (.slice e)) (hsz : P.cellsOf e = sz) (hbz : P.bytesOf e = bz) (hpos : 0 < sz) (hc : ∀ a, (cells a).length = sz) (hd : DecW enc P w base spare held e cells ok seen) :
    DecW enc P w base spare held t (fun x : Option Addr × Nat × List α => [.slice x.1 x.2.2.length x.2.1]) (fun x => (x.2.2.length ≤ x.2.1 ∧ x.2.1 ≤ maxLen ∧ x.2.2.length * bz ≤ reachBytes) ∧ ∀ a ∈ x.2.2, ok a) (fun x => rng x.1 (x.2.2.flatMap cells) :: x.2.2.flatMap seen) := fun fuel cs x h hlight => by
  have hlt := DataW.trod_lt fuel t cs x h
  rcases DataW.trod_slice ht h with ⟨rfl, _⟩ | ⟨a, len, cap, elems, rest, n, _, rfl, rfl, hb, hl, hm, hlen, hel, hsp, hns⟩
  · exact ⟨(none, 0, []), rfl, ⟨⟨Nat.le_refl _, by unfold maxLen; exact Nat.zero_le _, by simp⟩, by simp⟩, ⟨rfl, fun j v hj => by simp at hj, fun k hk => absurd rfl hk.1⟩, trivial⟩
  · have hw0 : ∀ n ∈ DataW.weights P t (.slice (elems.map (·.1)) (rest.map (·.1)) : DataW H), n ≤ reachBytes := hlight
    have hw1 : (elems.length + rest.length) * bz ≤ reachBytes := hw0 _ (by simp [DataW.weights, ht, hbz])
    have each : ∀ i, i < len → ∃ b : α, (∀ j v, (cells b)[j]? = some v → w.cell? (a.add (i * sz + j)) = some v) ∧ ok b ∧ Seen w (seen b) := by
      intro i hi
      have h1 := hel i hi
      rw [hsz, List.getElem?_eq_getElem (by omega), Option.bind_eq_some_iff] at h1
      obtain ⟨cs', hcs, hy⟩ := h1
      obtain ⟨b, rfl, hok, hseen⟩ := hd n cs' _ hy (fun n hn => hw0 n (by
        simp only [DataW.weights, ht, List.mem_cons, List.mem_append]
        exact .inr (.inl (weightsAll_mem (List.mem_map.2 ⟨elems[i], List.getElem_mem _, rfl⟩) n hn))))
      refine ⟨b, fun j v hj => ?_, hok, hseen⟩
      obtain ⟨_, h2, h3⟩ := World.cells?_some hcs
      have hj' := (List.getElem?_eq_some_iff.1 hj).1
      have := h3 j (by rw [hc] at hj'; omega)
      rw [add_add] at this
      rw [this, hj]
    have key : ∀ m, m ≤ len → ∃ l : List α, l.length = m ∧ (∀ b ∈ l, ok b ∧ Seen w (seen b)) ∧ ∀ j v, (l.flatMap cells)[j]? = some v → w.cell? (a.add j) = some v := by
      intro m
      induction m with
      | zero => exact fun _ => ⟨[], rfl, by simp, by simp⟩
      | succ m ih =>
        intro hm'
        obtain ⟨l, hl1, hl2, hl3⟩ := ih (by omega)
        obtain ⟨b, hb1, hb2, hb3⟩ := each m (by omega)
        refine ⟨l ++ [b], by simp [hl1], ?_, ?_⟩
        · intro c hc'
          rcases List.mem_append.1 hc' with hc' | hc'
          · exact hl2 c hc'
          · simp only [List.mem_singleton] at hc'
            subst hc'
            exact ⟨hb2, hb3⟩
        · intro j v hj
          rw [List.flatMap_append, List.flatMap_cons, List.flatMap_nil, List.append_nil] at hj
          have hfl := flat_len hc l
          rw [hl1] at hfl
          by_cases hjl : j < m * sz
          · rw [List.getElem?_append_left (by omega)] at hj
            exact hl3 j v hj
          · rw [List.getElem?_append_right (by omega), hfl] at hj
            have := hb1 (j - m * sz) v hj
            rwa [show m * sz + (j - m * sz) = j by omega] at this
    obtain ⟨l, hl1, hl2, hl3⟩ := key len (Nat.le_refl _)
    refine ⟨(some a, cap, l), (by show [Value.slice (some a) len cap] = [.slice (some a) l.length cap]; rw [hl1]), ⟨⟨by dsimp only; omega, hm, ?_⟩, fun b hb' => (hl2 b hb').1⟩, ⟨rfl, fun j v hj => ⟨a, rfl, hl3 j v hj⟩, fun k hk => ?_⟩, Seen.flat (fun b hb' => (hl2 b hb').2)⟩
    · dsimp only
      rw [hl1, ← hlen]
      exact Nat.le_trans (Nat.mul_le_mul_right _ (Nat.le_add_right _ _)) hw1
    · obtain ⟨hne, a', ha, rfl⟩ := hk
      cases ha
      have hfl := flat_len hc l
      have hl0 : 0 < l.length := by
        rcases Nat.eq_zero_or_pos l.length with h0 | h0
        · rw [List.length_eq_zero_iff.1 h0] at hne; simp at hne
        · exact h0
      have := hlt (.cell a.block (a.off + 0)) (by
        refine List.mem_append.2 (.inl ?_)
        unfold MemPlace.row
        refine List.mem_map.2 ⟨0, ?_, rfl⟩
        rw [List.mem_range, hsz]
        exact Nat.mul_pos (by omega) hpos)
      exact this
def DecFW (enc : TypeId × Value → H) (P : Program) (w : World) (base : Nat) (spare : Nat → Bool) (held : Bool) (fs : List Field) (o sz : Nat) {α : Type} (cells : α → List Value) (ok : α → Prop) (seen : α → List Chunk) : Prop :=
  ∀ (n : Nat) (cs : List Value), (∀ f ∈ fs, ∃ y, DataW.trod enc P w base spare held n f.type ((cs.drop f.offset).take (P.cellsOf f.type)) = some y ∧ Light P f.type y.1) → ∃ a : α, (cs.drop o).take sz = cells a ∧ ok a ∧ Seen w (seen a)
theorem decFW_nil {o : Nat} : DecFW enc P w base spare held [] o 0 (α := Unit) (fun _ => []) (fun _ => True) (fun _ => []) := fun n cs _ => ⟨(), by simp, trivial, trivial⟩
theorem decFW_cons {f : Field} {fs : List Field} {o k sz : Nat} {α β : Type} {c1 : α → List Value} {ok1 : α → Prop} {s1 : α → List Chunk} {c2 : β → List Value} {ok2 : β → Prop} {s2 : β → List Chunk} (ho : f.offset = o) (hk : P.cellsOf f.type = k)
    (h1 : DecW enc P w base spare held f.type c1 ok1 s1) (h2 : DecFW enc P w base spare held fs (o + k) sz c2 ok2 s2) : DecFW enc P w base spare held (f :: fs) o (k + sz) (fun x : α × β => c1 x.1 ++ c2 x.2) (fun x => ok1 x.1 ∧ ok2 x.2) (fun x => s1 x.1 ++ s2 x.2) := fun n cs h => by
  obtain ⟨y, hy, hyl⟩ := h f (by simp)
  rw [ho, hk] at hy
  obtain ⟨a, ha, hoa, hsa⟩ := h1 n _ _ hy hyl
  obtain ⟨b, hb, hob, hsb⟩ := h2 n cs (fun g hg => h g (by simp [hg]))
  refine ⟨(a, b), ?_, ⟨hoa, hob⟩, hsa.append hsb⟩
  show _ = c1 a ++ c2 b
  rw [← ha, ← hb, List.take_add, List.drop_drop]
theorem decW_struct {t : TypeId} {fs : Array Field} {sz : Nat} {α : Type} {cells : α → List Value} {ok : α → Prop} {seen : α → List Chunk} (ht : P.underlying t = some (.struct fs)) (hsz : P.cellsOf t = sz) (h : DecFW enc P w base spare held fs.toList 0 sz cells ok seen) : DecW enc P w base spare held t cells ok seen := fun fuel cs x hx hlight => by
  obtain ⟨xs, n, _, rfl, hl, hlen, hf⟩ := DataW.trod_struct ht hx
  have hw0 : ∀ n ∈ DataW.weights P t (.agg (xs.map (·.1)) : DataW H), n ≤ reachBytes := hlight
  obtain ⟨a, ha, h1, h2⟩ := h n cs (fun f hf' => by
    obtain ⟨i, hi⟩ := List.mem_iff_getElem?.1 hf'
    have hi' : fs[i]? = some f := by simpa using hi
    have := hf i f hi'
    have hlt : i < xs.length := by rw [hlen]; exact (Array.getElem?_eq_some_iff.1 hi').1
    refine ⟨xs[i], by rw [this]; simp [hlt], fun n hn => hw0 n ?_⟩
    simp only [DataW.weights, ht]
    exact weightsEach_mem (i := i) hi (by simp [hlt]) n hn)
  refine ⟨a, ?_, h1, h2⟩
  rw [List.drop_zero, List.take_of_length_le (by omega)] at ha
  exact ha
/-- The weights of the j-th argument. -/
theorem light_arg {ts : List TypeId} {ds : List (DataW H)} (h : (DataW.weightsEach P ts ds).all (· ≤ reachBytes) = true) {j : Nat} {t : TypeId} {d : DataW H} (ht : ts[j]? = some t) (hd : ds[j]? = some d) : Light P t d := fun n hn => by
  have := List.all_eq_true.1 h n (DataW.weights_mem_each ht hd n hn)
  simpa using this
/-- An argument that is a slice. -/
theorem arg_sliceW {t e : TypeId} {α : Type} {cells : α → List Value} {ok : α → Prop} {seen : α → List Chunk} {sz bz : Nat} {v : Value} {d : DataW H} {ps : List MemPlace} (ht : P.underlying t = some (.slice e)) (hsz : P.cellsOf e = sz) (hbz : P.bytesOf e = bz) (hpos : 0 < sz) (hc : ∀ a, (cells a).length = sz) (hd : DecW enc P w base spare held e cells ok seen)
    (hv : Value.okWide P w r b0 t v) (h : DataW.Trod enc P w base spare held t v d ps) (hl : Light P t d) :
    ∃ (ao : Option Addr) (cap : Nat) (l : List α), v = .slice ao l.length cap ∧ l.length ≤ cap ∧ cap ≤ maxLen ∧ l.length * bz ≤ reachBytes ∧ (∀ a ∈ l, ok a) ∧ Seen w (rng ao (l.flatMap cells) :: l.flatMap seen) := by
  obtain ⟨a0, len, cap, rfl⟩ := okWide_slice ht hv
  obtain ⟨fuel, hf⟩ := h
  obtain ⟨⟨ao, cap', l⟩, hcs, ⟨⟨h1, h2, h3⟩, h4⟩, h5⟩ := decW_slice ht hsz hbz hpos hc hd fuel _ _ hf hl
  simp [Value.cells] at hcs
  obtain ⟨rfl, rfl, rfl⟩ := hcs
  exact ⟨a0, cap, l, rfl, h1, h2, h3, h4, h5⟩
/-- An argument that is a struct. -/
theorem arg_structW {t : TypeId} {fs : Array Field} {α : Type} {cells : α → List Value} {ok : α → Prop} {seen : α → List Chunk} {v : Value} {d : DataW H} {ps : List MemPlace} (ht : P.underlying t = some (.struct fs)) (hd : DecW enc P w base spare held t cells ok seen)
    (hv : Value.okWide P w r b0 t v) (h : DataW.Trod enc P w base spare held t v d ps) (hl : Light P t d) :
    ∃ a : α, v = .agg (cells a).toArray ∧ ok a ∧ Seen w (seen a) := by
  obtain ⟨cs, rfl, _⟩ := okWide_struct ht hv
  obtain ⟨fuel, hf⟩ := h
  obtain ⟨a, hcs, h1, h2⟩ := hd fuel _ _ hf hl
  refine ⟨a, ?_, h1, h2⟩
  rw [← hcs]
  simp [Value.cells]
theorem seen_see {cs : List Chunk} (h : Seen w cs) : Seen w [seeL cs] :=
  ⟨⟨rfl, fun c hc => (h.mem c hc).2.1, fun k ⟨c, hc, hk⟩ => (h.mem c hc).2.2 k hk⟩, trivial⟩
end
end Go.Sx
namespace Go.Proofs.YteddjcpaeoceeaaDoor
open Go Go.Sx Go.Sx.Chunk
set_option linter.unusedVariables false
set_option linter.unusedSimpArgs false
set_option maxRecDepth 100000
def laidL : List (String × DataW Unit) := [("unicode.White_Space", Rows.laid_unicode_White_Space), ("strings.asciiSpace", Rows.laid_strings_asciiSpace)]
theorem spc_eq : (Rows.laid_strings_asciiSpace : DataW Unit) = Lib.tabData .u8 Lib.asciiSpaceTab := by kernel_rfl
theorem glb_seen {w : World} {n : String} {g : Nat} {k : IntKind} {zs : List Int} (hg : Tryd.prog.globalNamed n = some g) (h : Lib.TabIs Tryd.prog w n k zs) : SeenC w (glb g (zs.map fun z => Value.int k z)) := by
  obtain ⟨t, z, hb⟩ := var_cells hg h
  exact ⟨rfl, ⟨t, z, hb⟩, fun j hj => by
    have : j = g := hj
    rw [this]
    exact (Array.getElem?_eq_some_iff.1 hb).1⟩
theorem laid_plain {W : World} (h : laidMetH Tryd.prog laidL W) : laidMet Tryd.prog laidL W := by
  rw [MakeChecks.laidMetH_plain _ _ _ (by kernel_rfl)] at h
  exact h
theorem va_seen {W : World} (hL : laidMetH Tryd.prog laidL W) (hsh : W.ShapedOpen Tryd.prog) : ∃ m ev ev2 : Unit, True ∧ True ∧ Seen W [Cm.spaceV] := by
  have h0 := laid_plain hL
  have h7 := laidMet.tail h0
  rw [spc_eq] at h7
  have t0 := Lib.tabIs_of_head (g := 1) (t := 111) (e := 5) (n := 256) (by kernel_rfl) (by kernel_rfl) (by kernel_rfl) (by kernel_rfl) (by kernel_rfl) (by kernel_rfl) h7
  exact ⟨(), (), (), trivial, trivial, glb_seen (by kernel_rfl) t0, trivial⟩
end Go.Proofs.YteddjcpaeoceeaaDoor

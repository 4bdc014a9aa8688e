/- Texts of the proof, in their order: Sq5, Sq6, Sq7, Sq8, Sm1, Cl1, Cl2, Cr2, Sm2, Sm3, Cr3, Li1, Rw1, Rw2, Li4, Nv1, SxT, SxO, Dr2. -/
import Derived.Test.YteddjcpaeoceeaaGreatDoorM7
import Derived.Test.YteddjcpaeoceeaaGreatDoorM4
import Derived.Test.YteddjcpaeoceeaaGreatDoorM6
import Derived.Test.YteddjcpaeoceeaaGreatDoorM3
import Derived.Test.YteddjcpaeoceeaaGreatDoorM2
import Derived.HandedShaped
import Derived.SizedLaws
import Derived.Test.YteddjcpaeoceeaaGreatDoorRows
import Derived.Stop.LaidErr
import Derived.Lib.LaidTab
import Derived.MakeChecks
import Derived.LaidLaws
set_option linter.unusedVariables false
set_option linter.unusedSimpArgs false
namespace Go.Proofs.YteddjcpaeoceeaaGreatDoor
open Go Go.Sx Go.Sx.Chunk
set_option linter.unusedVariables false
set_option maxRecDepth 100000
set_option linter.unusedSimpArgs false
def mqH (c : Nat) (k : Kq) (m : MS) (x : Aq) : List Chunk := [blk c (msC k m x) 116, blk k.mm [.slice (some ⟨k.g, 0, none⟩) k.n k.n] 161, row (some ⟨k.g, 0, none⟩) k.n 3 1 k.n (i64C m.mem), row x.oa x.oc 3 1 m.out.length (i64C m.out)]
def inB (IA : Addr) (L : List Int) : Chunk := rng (some IA) (i64C L)
theorem i64C_drop (l : List Int) (j : Nat) : (i64C l).drop j = i64C (l.drop j) := by simp [i64C, List.map_drop]
theorem in_look {w0 w : World} {M : Nat → Prop} {H : List Chunk} {IA a : Addr} {L : List Int} {m : MS} {x : Aq} {i : Nat} (hw : St w0 M w H) (hp : nthC H i = some (inB IA L)) (hx : OkIn IA L m x) (hn : m.inp ≠ []) (ha : x.ia = some a) : St w0 M w (rng (some a) (i64C m.inp) :: H) := by
  obtain ⟨j, hj, hta⟩ := hx.tok hn
  rw [ha] at hta
  cases hta
  refine hw.look rfl ?_
  have h1 : Prov [inB IA L] (rng (some (IA.add j)) ((i64C L).drop j)) := rng_drop _
  rw [i64C_drop, hj] at h1
  refine h1.one (prov_mem ?_)
  unfold ros
  rw [List.mem_filter]
  exact ⟨nthC_mem hp, rfl⟩
theorem OkIn.same {IA : Addr} {L : List Int} {m m' : MS} {x y : Aq} (h : OkIn IA L m x) (h1 : m'.inp = m.inp) (h2 : y.ia = x.ia) (h3 : y.ic = x.ic) : OkIn IA L m' y :=
  ⟨fun hn => by rw [h1] at hn ⊢; rw [h2]; exact h.tok hn, by rw [h1, h3]; exact h.cap⟩
theorem setQ_inp (n v : Int) (m : MS) : (setQ n v m).inp = m.inp := by unfold setQ; split <;> rfl
theorem setQ_out (n v : Int) (m : MS) : (setQ n v m).out = m.out := by unfold setQ; split <;> rfl
theorem setQ_mem (n v : Int) (m : MS) : (setQ n v m).mem = m.mem := by unfold setQ; split <;> rfl
theorem setQ_pc (n v : Int) (m : MS) : (setQ n v m).pc = m.pc := by unfold setQ; split <;> rfl
variable {IA : Addr} {L : List Int} {k : Kq}
set_option maxHeartbeats 4000000 in
theorem systemC (c : Nat) (n : Int) (m : MS) (x : Aq) (hn : 0 ≤ n ∧ n ≤ 2) (hm : OkM k m) (hx : OkIn IA L m x) : FnC Tryz.prog 129 [qP c, .int .i64 n] (mqH c k m x) [inB IA L] (fun _ => .int .i64 (sysQ n m).1) (fun y : Aq => mqH c k (sysQ n m).2 y) (fun y => OkIn IA L (sysQ n m).2 y) := by
  have h32 := hm.rl
  have hin := ms_in (k := k) (x := x) h32
  have hou := ms_out (k := k) (x := x) h32
  have hlen := ms_len (k := k) (x := x) h32
  have hol := hm.ol
  obtain ⟨ia, ic, oa, oc⟩ := x
  unfold mqH qP sysQ at *
  by_cases n0 : n = 0
  · rw [if_pos n0]
    refine fn_intro Tryz.func129 Tryz.ntmps129 rfl rfl rfl (fun w0 => ?_)
    try simp only [List.cons_append, List.nil_append, List.append_nil]
    refine rr ?_
    exact en ⟨ia, ic, oa, oc⟩ hx
  rw [if_neg n0]
  by_cases n1 : n = 1
  · rw [if_pos n1]
    cases hi : m.inp with
    | nil =>
      rw [hi] at hin
      dsimp only
      refine fn_intro Tryz.func129 Tryz.ntmps129 rfl rfl rfl (fun w0 => ?_)
      try simp only [List.cons_append, List.nil_append, List.append_nil]
      refine rr ?_
      exact en ⟨ia, ic, oa, oc⟩ hx
    | cons v r =>
      have hne : m.inp ≠ [] := by rw [hi]; simp
      obtain ⟨j, hj, hta⟩ := hx.tok hne
      dsimp only at hta hin hou
      have hs := setC (k := k) (m := m) (x := ⟨ia, ic, oa, oc⟩) c 4 v h32 (by decide)
      have h32' : (setQ 4 v m).regs.length = 32 := by rw [setQ_len, h32]
      have hin2 := ms_in (k := k) (x := ⟨ia, ic, oa, oc⟩) h32'
      have hlen2 := ms_len (k := k) (x := ⟨ia, ic, oa, oc⟩) h32'
      have hcap := hx.cap
      rw [setQ_inp] at hin2
      rw [hi] at hin hin2 hcap
      have hl : (v :: r).length = r.length + 1 := rfl
      rw [hl] at hin hin2 hcap
      dsimp only at hin2 hcap ⊢
      unfold qP at hs
      have hget : (i64C m.inp)[(0 : Int).toNat * 1]? = some (.int .i64 v) := by rw [hi]; rfl
      have hgl := i64C_len m.inp
      refine fn_intro Tryz.func129 Tryz.ntmps129 rfl rfl rfl (fun w0 => ?_)
      try simp only [List.cons_append, List.nil_append, List.append_nil]
      refine w_turn (fun w hw => in_look (i := 4) hw rfl hx hne hta) ?_
      subst hta
      refine rr ?_
      refine cl (hs) ?_
      intro _ _
      try simp only [List.cons_append, List.nil_append, List.append_nil]
      refine rr ?_
      have e1 : ((none : Option Int).getD ((r.length + 1 : Nat) : Int)).toNat - ((some (1 : Int)).getD 0).toNat = r.length := by simp
      rw [e1, ms_setIn h32' _ _ r]
      refine en ⟨_, _, oa, oc⟩ ⟨fun hr => ⟨j + 1, ?_, ?_⟩, ?_⟩ (hp := by rw [setQ_mem, setQ_out] at *; (repeat (first | exact Has.nil | (apply Has.cons; focus ((repeat (first | exact pick_here | apply pick_there)); done)) | apply Has.nrow | apply Has.gen0)))
      · show L.drop (j + 1) = r
        rw [show L.drop (j + 1) = (L.drop j).drop 1 by rw [List.drop_drop], hj, hi]; rfl
      · have : r.length ≠ 0 := fun h => hr (List.length_eq_zero_iff.mp h)
        dsimp only
        rw [if_neg (by show ¬ ic = 1; omega)]
        show some _ = some _
        congr 1
        show (IA.add j).add 1 = _
        unfold Addr.add
        by_cases hz : j = 0 <;> simp [hz, Nat.add_assoc]
      · show r.length ≤ ic - 1; omega
  rw [if_neg n1]
  have n2 : n = 2 := by omega
  rw [if_pos n2]
  by_cases hf : 10000 ≤ m.out.length
  · rw [if_pos hf]
    refine fn_intro Tryz.func129 Tryz.ntmps129 rfl rfl rfl (fun w0 => ?_)
    try simp only [List.cons_append, List.nil_append, List.append_nil]
    refine rr ?_
    exact en ⟨ia, ic, oa, oc⟩ hx
  · rw [if_neg hf]
    have hr4 : Sx.nth (msC k m ⟨ia, ic, oa, oc⟩) (0 + 2 + (4 : Int).toNat * 1) = some (.int .i64 (rgQ m 4)) := ms_reg h32 (by decide) (by decide)
    dsimp only at hou ⊢
    refine fn_intro Tryz.func129 Tryz.ntmps129 rfl rfl rfl (fun w0 => ?_)
    try simp only [List.cons_append, List.nil_append, List.append_nil]
    refine rr ?_
    refine dr [0, 1, 2, 3, 4, 5, 6, 7, 8, 9, 10, 11, 12, 13, 14] [4, 9] [0] ?_
    refine rr ?_
    refine rr ?_
    intro b1 _
    refine rr ?_
    rintro ⟨a2, c2⟩ ⟨hc2, _⟩
    refine rr ?_
    dsimp only
    rw [show m.out.length + 1 = (m.out ++ [rgQ m 4]).length by simp, ms_setOut h32 _ _ (m.out ++ [rgQ m 4]), ← i64C_snoc]
    exact en ⟨ia, ic, a2, c2⟩ (hx.same rfl rfl rfl)
/-- What is known of an instruction that is right. -/
structure RgI (i : In) : Prop where
  a : 0 ≤ i.a ∧ i.a < 32
  b : 0 ≤ i.b ∧ i.b < 32
  c : 0 ≤ i.c ∧ i.c < 32
  imm : -32768 ≤ i.imm ∧ i.imm ≤ 32767
  sys : i.op = 20 → 0 ≤ i.imm ∧ i.imm ≤ 2
  op : 0 ≤ i.op ∧ i.op ≤ 20
theorem regI_in {n : Int} {b : Bool} (h : regI n b = true) : 0 ≤ n ∧ n < 32 := by
  unfold regI at h
  simp only [Bool.or_eq_true, decide_eq_true_eq, Bool.and_eq_true] at h
  omega
theorem rgI {i : In} (h : goodI i = true) : RgI i := by
  unfold goodI at h
  simp only [Bool.and_eq_true] at h
  obtain ⟨⟨⟨⟨h0, h1⟩, h2⟩, h3⟩, h4⟩ := h
  have h5 : okO i.op = true := h0
  unfold okO at h5
  rw [decide_eq_true_eq] at h5
  have h6 : i.imm = 0 ∨ numI i.op i.imm = true := by
    simp only [Bool.or_eq_true, decide_eq_true_eq, Bool.and_eq_true] at h4
    exact h4.imp id (fun h => h.2)
  refine ⟨regI_in h1, regI_in h2, regI_in h3, ?_, fun h20 => ?_, h5⟩
  · rcases h6 with h6 | h6
    · omega
    · unfold numI fits16 at h6
      split at h6
      · rw [decide_eq_true_eq] at h6; omega
      · split at h6
        · rw [decide_eq_true_eq] at h6; omega
        · split at h6
          · simp only [Bool.and_eq_true, decide_eq_true_eq] at h6; omega
          · rw [decide_eq_true_eq] at h6; omega
  · rcases h6 with h6 | h6
    · omega
    · unfold numI at h6
      rw [if_neg (by omega), if_pos h20, decide_eq_true_eq] at h6
      omega
end Go.Proofs.YteddjcpaeoceeaaGreatDoor
namespace Go.Proofs.YteddjcpaeoceeaaGreatDoor
open Go Go.Sx Go.Sx.Chunk
set_option linter.unusedVariables false
set_option maxRecDepth 100000
set_option linter.unusedSimpArgs false
variable {IA : Addr} {L : List Int} {k : Kq}
set_option maxHeartbeats 8000000 in
theorem actC (c : Nat) (i : In) (m : MS) (x : Aq) (hg : goodI i = true) (hm : OkM k m) (hx : OkIn IA L m x) : FnC Tryz.prog 89 [qP c, inG i] (mqH c k m x) [inB IA L] (fun _ => .int .i64 (actQ i m).1) (fun y : Aq => mqH c k (actQ i m).2 y) (fun y => OkIn IA L (actQ i m).2 y) := by
  have h32 := hm.rl
  have hr := rgI hg
  have hra := ms_reg (k := k) (x := x) h32 hr.a.1 hr.a.2
  have hrb := ms_reg (k := k) (x := x) h32 hr.b.1 hr.b.2
  have hra0 := hr.a
  have hrb0 := hr.b
  have hba := hm.rg i.a
  have hbb := hm.rg i.b
  unfold inK32 at hba hbb
  have hlen := ms_len (k := k) (x := x) h32
  have hkn := hm.kn
  have hml := hm.ml
  have himm := hr.imm
  have hadd := addC (rgQ m i.b) i.imm (by omega)
  generalize hw : w32 (rgQ m i.b + i.imm) = w at *
  unfold actQ
  rw [hw]
  by_cases h12 : i.op = 12
  · rw [if_pos h12]
    by_cases hin : 0 ≤ w ∧ w < k.n
    · obtain ⟨v, hv⟩ := some_at (l := m.mem) (k := w.toNat) (by omega)
      have hl : loadQ m w = some v := by unfold loadQ; rw [if_neg (by omega), hv]
      rw [hl]
      have h1 := loadOk k.mm k.g k.n m.mem w v (by omega) hml hin.1 hv
      have h2 := setC (k := k) (m := m) (x := x) c i.a v h32 hr.a
      unfold mqH qP inG memH mP at *
      dsimp only
      refine fn_intro Tryz.func89 Tryz.ntmps89 rfl rfl rfl (fun w0 => ?_)
      try simp only [List.cons_append, List.nil_append, List.append_nil]
      refine rr ?_
      intro b3 _
      refine rr ?_
      refine dr [0, 1, 2, 3, 4, 5, 6, 7, 8, 9, 10, 11, 12, 13, 14, 15] [2, 6, 9, 13] [0, 1] ?_
      refine rr ?_
      refine dr [0, 1, 2, 3, 4, 5, 6, 7, 8, 9, 10, 11, 12, 13] [3, 6] [0, 1] ?_
      refine rr ?_
      refine cld (hadd) ?_
      intro _ _
      try simp only [List.cons_append, List.nil_append, List.append_nil]
      refine rr ?_
      refine cle (h1) ?_
      intro _ _
      try simp only [List.cons_append, List.nil_append, List.append_nil]
      refine rr ?_
      refine cl (h2) ?_
      intro _ _
      try simp only [List.cons_append, List.nil_append, List.append_nil]
      refine rr ?_
      exact en x (hx.same (setQ_inp _ _ _) rfl rfl) (hp := by rw [setQ_mem, setQ_out]; (repeat (first | exact Has.nil | (apply Has.cons; focus ((repeat (first | exact pick_here | apply pick_there)); done)) | apply Has.nrow | apply Has.gen0)))
    · have hl : loadQ m w = none := by
        unfold loadQ
        by_cases h : w < 0
        · rw [if_pos h]
        · rw [if_neg h]; exact List.getElem?_eq_none (by omega)
      rw [hl]
      have h1 := loadBad k.mm k.g k.n m.mem w (by omega) hin
      unfold mqH qP inG memH mP at *
      dsimp only
      refine fn_intro Tryz.func89 Tryz.ntmps89 rfl rfl rfl (fun w0 => ?_)
      try simp only [List.cons_append, List.nil_append, List.append_nil]
      refine rr ?_
      intro b3 _
      refine rr ?_
      refine dr [0, 1, 2, 3, 4, 5, 6, 7, 8, 9, 10, 11, 12, 13, 14, 15] [2, 6, 9, 13] [0, 1] ?_
      refine rr ?_
      refine dr [0, 1, 2, 3, 4, 5, 6, 7, 8, 9, 10, 11, 12, 13] [3, 6] [0, 1] ?_
      refine rr ?_
      refine cld (hadd) ?_
      intro _ _
      try simp only [List.cons_append, List.nil_append, List.append_nil]
      refine rr ?_
      refine cle (h1) ?_
      intro _ _
      try simp only [List.cons_append, List.nil_append, List.append_nil]
      refine rr ?_
      exact en x hx
  rw [if_neg h12]
  by_cases h13 : i.op = 13
  · rw [if_pos h13]
    by_cases hin : 0 ≤ w ∧ w < k.n
    · rw [if_neg (by omega)]
      have h1 := storeOk k.mm k.g k.n m.mem w (rgQ m i.a) (by omega) hml hin
      unfold mqH qP inG memH mP at *
      dsimp only
      refine fn_intro Tryz.func89 Tryz.ntmps89 rfl rfl rfl (fun w0 => ?_)
      try simp only [List.cons_append, List.nil_append, List.append_nil]
      refine rr ?_
      intro b3 _
      refine rr ?_
      refine dr [0, 1, 2, 3, 4, 5, 6, 7, 8, 9, 10, 11, 12, 13, 14, 15] [2, 6, 9, 13] [0, 1] ?_
      refine rr ?_
      refine dr [0, 1, 2, 3, 4, 5, 6, 8, 7, 9, 10] [3, 6] [0, 1] ?_
      refine rr ?_
      refine cld (hadd) ?_
      intro _ _
      try simp only [List.cons_append, List.nil_append, List.append_nil]
      refine rr ?_
      refine cle (h1) ?_
      intro _ _
      try simp only [List.cons_append, List.nil_append, List.append_nil]
      refine rr ?_
      exact en x (hx.same rfl rfl rfl)
    · rw [if_pos (by omega)]
      have h1 := storeBad k.mm k.g k.n m.mem w (rgQ m i.a) (by omega) hin
      unfold mqH qP inG memH mP at *
      dsimp only
      refine fn_intro Tryz.func89 Tryz.ntmps89 rfl rfl rfl (fun w0 => ?_)
      try simp only [List.cons_append, List.nil_append, List.append_nil]
      refine rr ?_
      intro b3 _
      refine rr ?_
      refine dr [0, 1, 2, 3, 4, 5, 6, 7, 8, 9, 10, 11, 12, 13, 14, 15] [2, 6, 9, 13] [0, 1] ?_
      refine rr ?_
      refine dr [0, 1, 2, 3, 4, 5, 6, 8, 7, 9, 10] [3, 6] [0, 1] ?_
      refine rr ?_
      refine cld (hadd) ?_
      intro _ _
      try simp only [List.cons_append, List.nil_append, List.append_nil]
      refine rr ?_
      refine cle (h1) ?_
      intro _ _
      try simp only [List.cons_append, List.nil_append, List.append_nil]
      refine rr ?_
      exact en x hx
  rw [if_neg h13]
  by_cases h14 : i.op = 14
  · rw [if_pos h14]
    have hcase : (rgQ m i.a < 0) ∨ (¬ rgQ m i.a < 0 ∧ i.imm ≤ rgQ m i.a) ∨ (¬ rgQ m i.a < 0 ∧ ¬ i.imm ≤ rgQ m i.a) := by omega
    unfold mqH qP inG at *
    rcases hcase with ha | ⟨ha, ha2⟩ | ⟨ha, ha2⟩
    · rw [if_pos (.inl ha)]
      by_cases hb0 : i.b = 0
      · rw [if_pos hb0]
        refine fn_intro Tryz.func89 Tryz.ntmps89 rfl rfl rfl (fun w0 => ?_)
        try simp only [List.cons_append, List.nil_append, List.append_nil]
        refine rr ?_
        intro b3 _
        refine rr ?_
        refine dr [0, 1, 2, 3, 4, 5, 6, 7, 8, 9, 10, 11, 12, 13, 14, 15] [2, 6, 9, 13] [0, 1] ?_
        refine rr ?_
        exact en x hx
      · rw [if_neg hb0]
        refine fn_intro Tryz.func89 Tryz.ntmps89 rfl rfl rfl (fun w0 => ?_)
        try simp only [List.cons_append, List.nil_append, List.append_nil]
        refine rr ?_
        intro b3 _
        refine rr ?_
        refine dr [0, 1, 2, 3, 4, 5, 6, 7, 8, 9, 10, 11, 12, 13, 14, 15] [2, 6, 9, 13] [0, 1] ?_
        refine rr ?_
        exact en x hx
    · rw [if_pos (.inr ha2)]
      by_cases hb0 : i.b = 0
      · rw [if_pos hb0]
        refine fn_intro Tryz.func89 Tryz.ntmps89 rfl rfl rfl (fun w0 => ?_)
        try simp only [List.cons_append, List.nil_append, List.append_nil]
        refine rr ?_
        intro b3 _
        refine rr ?_
        refine dr [0, 1, 2, 3, 4, 5, 6, 7, 8, 9, 10, 11, 12, 13, 14, 15] [2, 6, 9, 13] [0, 1] ?_
        refine rr ?_
        exact en x hx
      · rw [if_neg hb0]
        refine fn_intro Tryz.func89 Tryz.ntmps89 rfl rfl rfl (fun w0 => ?_)
        try simp only [List.cons_append, List.nil_append, List.append_nil]
        refine rr ?_
        intro b3 _
        refine rr ?_
        refine dr [0, 1, 2, 3, 4, 5, 6, 7, 8, 9, 10, 11, 12, 13, 14, 15] [2, 6, 9, 13] [0, 1] ?_
        refine rr ?_
        exact en x hx
    · rw [if_neg (by omega)]
      refine fn_intro Tryz.func89 Tryz.ntmps89 rfl rfl rfl (fun w0 => ?_)
      try simp only [List.cons_append, List.nil_append, List.append_nil]
      refine rr ?_
      intro b3 _
      refine rr ?_
      refine dr [0, 1, 2, 3, 4, 5, 6, 7, 8, 9, 10, 11, 12, 13, 14, 15] [2, 6, 9, 13] [0, 1] ?_
      refine rr ?_
      exact en x hx
  rw [if_neg h14]
  by_cases h20 : i.op = 20
  · rw [if_pos h20]
    have h1 := systemC (IA := IA) (L := L) c i.imm m x (hr.sys h20) hm hx
    generalize sysQ i.imm m = r at *
    obtain ⟨r1, r2⟩ := r
    unfold mqH qP inG at *
    dsimp only at h1 ⊢
    refine fn_intro Tryz.func89 Tryz.ntmps89 rfl rfl rfl (fun w0 => ?_)
    try simp only [List.cons_append, List.nil_append, List.append_nil]
    refine rr ?_
    intro b3 _
    refine rr ?_
    refine dr [0, 1, 2, 3, 4, 5, 6, 7, 8, 9, 10, 11, 12, 13, 14, 15] [2, 6, 9, 13] [0, 1] ?_
    refine rr ?_
    refine cl (h1) ?_
    intro y hy
    try simp only [List.cons_append, List.nil_append, List.append_nil]
    refine rr ?_
    exact en y hy
  rw [if_neg h20]
  unfold mqH qP inG at *
  refine fn_intro Tryz.func89 Tryz.ntmps89 rfl rfl rfl (fun w0 => ?_)
  try simp only [List.cons_append, List.nil_append, List.append_nil]
  refine rr ?_
  intro b3 _
  refine rr ?_
  refine dr [0, 1, 2, 3, 4, 5, 6, 7, 8, 9, 10, 11, 12, 13, 14, 15] [2, 6, 9, 13] [0, 1] ?_
  refine rr ?_
  exact en x hx
set_option maxHeartbeats 8000000 in
theorem nextC (c : Nat) (i : In) (m : MS) (x : Aq) (hg : goodI i = true) (hm : OkM k m) : FnC (α := Unit) Tryz.prog 92 [qP c, inG i] [blk c (msC k m x) 116] [] (fun _ => .int .i64 (nextQ i m).pc) (fun _ => [blk c (msC k { nextQ i m with pc := m.pc } x) 116]) (fun _ => True) := by
  have h32 := hm.rl
  have hr := rgI hg
  have hra := ms_reg (k := k) (x := x) h32 hr.a.1 hr.a.2
  have hrb := ms_reg (k := k) (x := x) h32 hr.b.1 hr.b.2
  have hra0 := hr.a
  have hrb0 := hr.b
  have hpc := ms_pc (k := k) (x := x) h32
  have hlen := ms_len (k := k) (x := x) h32
  have hpb := hm.pc
  have himm := hr.imm
  unfold nextQ qP inG at *
  by_cases hbr : i.op = 15 ∨ i.op = 16
  · rw [if_pos hbr]
    have hcase : (i.op = 15) ∨ (i.op = 16 ∧ ¬ i.op = 15) := by omega
    by_cases hab : rgQ m i.a = rgQ m i.b
    · rcases hcase with h15 | ⟨h16, h15⟩
      · rw [if_pos (by simp [hab, h15])]
        have hd : ((rgQ m i.a == rgQ m i.b) == (i.op == 15)) = true := by simp [hab, h15]
        refine fn_intro Tryz.func92 Tryz.ntmps92 rfl rfl rfl (fun w0 => ?_)
        try simp only [List.cons_append, List.nil_append, List.append_nil]
        refine rr ?_
        intro b3 _
        refine rr ?_
        refine dr [0, 1, 2, 3, 4, 5, 6, 7, 8, 9, 10, 11, 12, 13, 14, 15] [2, 6, 9, 13] [0, 1] ?_
        refine rr ?_
        exact en () trivial
      · rw [if_neg (by simp [hab, h16])]
        have hd : ((rgQ m i.a == rgQ m i.b) == (i.op == 15)) = false := by simp [hab, h16]
        refine fn_intro Tryz.func92 Tryz.ntmps92 rfl rfl rfl (fun w0 => ?_)
        try simp only [List.cons_append, List.nil_append, List.append_nil]
        refine rr ?_
        intro b3 _
        refine rr ?_
        refine dr [0, 1, 2, 3, 4, 5, 6, 7, 8, 9, 10, 11, 12, 13, 14, 15] [2, 6, 9, 13] [0, 1] ?_
        refine rr ?_
        exact en () trivial
    · rcases hcase with h15 | ⟨h16, h15⟩
      · rw [if_neg (by simp [hab, h15])]
        have hd : ((rgQ m i.a == rgQ m i.b) == (i.op == 15)) = false := by simp [hab, h15]
        refine fn_intro Tryz.func92 Tryz.ntmps92 rfl rfl rfl (fun w0 => ?_)
        try simp only [List.cons_append, List.nil_append, List.append_nil]
        refine rr ?_
        intro b3 _
        refine rr ?_
        refine dr [0, 1, 2, 3, 4, 5, 6, 7, 8, 9, 10, 11, 12, 13, 14, 15] [2, 6, 9, 13] [0, 1] ?_
        refine rr ?_
        exact en () trivial
      · rw [if_pos (by simp [hab, h16])]
        have hd : ((rgQ m i.a == rgQ m i.b) == (i.op == 15)) = true := by simp [hab, h16]
        refine fn_intro Tryz.func92 Tryz.ntmps92 rfl rfl rfl (fun w0 => ?_)
        try simp only [List.cons_append, List.nil_append, List.append_nil]
        refine rr ?_
        intro b3 _
        refine rr ?_
        refine dr [0, 1, 2, 3, 4, 5, 6, 7, 8, 9, 10, 11, 12, 13, 14, 15] [2, 6, 9, 13] [0, 1] ?_
        refine rr ?_
        exact en () trivial
  rw [if_neg hbr]
  have h15 : ¬ i.op = 15 := fun h => hbr (.inl h)
  have h16 : ¬ i.op = 16 := fun h => hbr (.inr h)
  by_cases h18 : i.op = 18
  · rw [if_pos h18]
    have h1 := setC (k := k) (m := m) (x := x) c 31 (m.pc + 1) h32 (by decide)
    have e : ({ ({ setQ 31 (m.pc + 1) m with pc := i.imm } : MS) with pc := m.pc } : MS) = setQ 31 (m.pc + 1) m := by
      show ({ setQ 31 (m.pc + 1) m with pc := m.pc } : MS) = _
      unfold setQ; rfl
    rw [e]
    unfold qP at h1
    refine fn_intro Tryz.func92 Tryz.ntmps92 rfl rfl rfl (fun w0 => ?_)
    try simp only [List.cons_append, List.nil_append, List.append_nil]
    refine rr ?_
    intro b3 _
    refine rr ?_
    refine dr [0, 1, 2, 3, 4, 5, 6, 7, 8, 9, 10, 11, 12, 13, 14, 15] [2, 6, 9, 13] [0, 1] ?_
    refine rr ?_
    refine cl (h1) ?_
    intro _ _
    try simp only [List.cons_append, List.nil_append, List.append_nil]
    refine rr ?_
    exact en () trivial
  rw [if_neg h18]
  by_cases h17 : i.op = 17
  · rw [if_pos h17]
    refine fn_intro Tryz.func92 Tryz.ntmps92 rfl rfl rfl (fun w0 => ?_)
    try simp only [List.cons_append, List.nil_append, List.append_nil]
    refine rr ?_
    intro b3 _
    refine rr ?_
    refine dr [0, 1, 2, 3, 4, 5, 6, 7, 8, 9, 10, 11, 12, 13, 14, 15] [2, 6, 9, 13] [0, 1] ?_
    refine rr ?_
    exact en () trivial
  rw [if_neg h17]
  by_cases h19 : i.op = 19
  · rw [if_pos h19]
    refine fn_intro Tryz.func92 Tryz.ntmps92 rfl rfl rfl (fun w0 => ?_)
    try simp only [List.cons_append, List.nil_append, List.append_nil]
    refine rr ?_
    intro b3 _
    refine rr ?_
    refine dr [0, 1, 2, 3, 4, 5, 6, 7, 8, 9, 10, 11, 12, 13, 14, 15] [2, 6, 9, 13] [0, 1] ?_
    refine rr ?_
    exact en () trivial
  rw [if_neg h19]
  refine fn_intro Tryz.func92 Tryz.ntmps92 rfl rfl rfl (fun w0 => ?_)
  try simp only [List.cons_append, List.nil_append, List.append_nil]
  refine rr ?_
  intro b3 _
  refine rr ?_
  refine dr [0, 1, 2, 3, 4, 5, 6, 7, 8, 9, 10, 11, 12, 13, 14, 15] [2, 6, 9, 13] [0, 1] ?_
  refine rr ?_
  exact en () trivial
end Go.Proofs.YteddjcpaeoceeaaGreatDoor
namespace Go.Proofs.YteddjcpaeoceeaaGreatDoor
open Go Go.Sx Go.Sx.Chunk
set_option linter.unusedVariables false
set_option maxRecDepth 100000
set_option linter.unusedSimpArgs false
variable {IA : Addr} {L : List Int} {k : Kq}
theorem OkM.sys {m : MS} (h : OkM k m) (n : Int) : OkM k (sysQ n m).2 := by
  unfold sysQ
  split
  · exact h
  · split
    · cases hi : m.inp with
      | nil => exact h
      | cons v r =>
        have := h.set 4 v
        exact ⟨this.rl, this.rb, this.ml, this.mb, this.pc, this.ol, this.kn⟩
    · split
      · split
        · exact h
        · exact ⟨h.rl, h.rb, h.ml, h.mb, h.pc, by simp; omega, h.kn⟩
      · exact h
theorem OkM.act {m : MS} (h : OkM k m) (i : In) : OkM k (actQ i m).2 := by
  unfold actQ
  split
  · cases loadQ m (w32 (rgQ m i.b + i.imm)) with
    | none => exact h
    | some v => exact h.set _ _
  · split
    · split
      · exact h
      · exact ⟨h.rl, h.rb, by simp [h.ml], mem_set h.mb (w32_in _), h.pc, h.ol, h.kn⟩
    · split
      · split <;> exact h
      · split
        · exact h.sys _
        · exact h
theorem act_pc {i : In} {m : MS} : (actQ i m).2.pc = m.pc := by
  unfold actQ
  split
  · cases loadQ m (w32 (rgQ m i.b + i.imm)) with
    | none => rfl
    | some v => exact setQ_pc _ _ _
  · split
    · split <;> rfl
    · split
      · split <;> rfl
      · split
        · unfold sysQ
          split
          · rfl
          · split
            · cases m.inp with
              | nil => rfl
              | cons v r => exact setQ_pc 4 v m
            · split
              · split <;> rfl
              · rfl
        · rfl
theorem nextQ_mem (i : In) (m : MS) : (nextQ i m).mem = m.mem := by
  unfold nextQ
  split
  · split <;> rfl
  · split
    · exact setQ_mem _ _ _
    · split
      · rfl
      · split <;> rfl
theorem nextQ_out (i : In) (m : MS) : (nextQ i m).out = m.out := by
  unfold nextQ
  split
  · split <;> rfl
  · split
    · exact setQ_out _ _ _
    · split
      · rfl
      · split <;> rfl
theorem nextQ_inp (i : In) (m : MS) : (nextQ i m).inp = m.inp := by
  unfold nextQ
  split
  · split <;> rfl
  · split
    · exact setQ_inp _ _ _
    · split
      · rfl
      · split <;> rfl
theorem nextQ_len (i : In) (m : MS) : (nextQ i m).regs.length = m.regs.length := by
  unfold nextQ
  split
  · split <;> rfl
  · split
    · exact setQ_len _ _ _
    · split
      · rfl
      · split <;> rfl
theorem OkM.next {m : MS} (h : OkM k m) {i : In} (hg : goodI i = true) (hp : 0 ≤ m.pc ∧ m.pc ≤ 1000000) : OkM k (nextQ i m) := by
  have hi := (rgI hg).imm
  have ha := h.rg i.a
  unfold inK32 at ha
  have hb : ∀ p : Int, -10000000000 ≤ p ∧ p ≤ 10000000000 → OkM k { m with pc := p } := fun p hp => ⟨h.rl, h.rb, h.ml, h.mb, hp, h.ol, h.kn⟩
  unfold nextQ
  split
  · split
    · exact hb _ (by omega)
    · exact hb _ (by omega)
  · split
    · have h2 := h.set 31 (m.pc + 1)
      exact ⟨h2.rl, h2.rb, h2.ml, h2.mb, by dsimp only; omega, h2.ol, h2.kn⟩
    · split
      · exact hb _ (by omega)
      · split
        · exact hb _ (by omega)
        · exact hb _ (by omega)
theorem OkM.step {m : MS} (h : OkM k m) {code : List In} (hc : code.length ≤ 1000000) : OkM k (stepQ code m).2 := by
  unfold stepQ
  split
  · exact h
  · rename_i h0
    cases hi : code[m.pc.toNat]? with
    | none => exact h
    | some i =>
      have hlt := (List.getElem?_eq_some_iff.1 hi).1
      dsimp only
      by_cases hg : goodI i = false
      · rw [if_pos hg]; exact h
      · rw [if_neg hg]
        have h1 := h.act i
        have hpc := act_pc (i := i) (m := m)
        generalize actQ i m = r at *
        split
        · exact h1
        · split
          · exact h1
          · refine OkM.next ?_ (by simpa using hg) ?_
            · split
              · exact h1.set _ _
              · exact h1
            · split
              · rw [setQ_pc]; omega
              · omega
set_option maxHeartbeats 8000000 in
theorem stepC (c : Nat) (code : List In) (m : MS) (x : Aq) (hk : k.cn = code.length) (hc : code.length ≤ 1000000) (hm : OkM k m) (hx : OkIn IA L m x) : FnC Tryz.prog 48 [qP c] (mqH c k m x) [rng k.ca (insC code), inB IA L] (fun _ => .int .i64 (stepQ code m).1) (fun y : Aq => mqH c k (stepQ code m).2 y) (fun y => OkIn IA L (stepQ code m).2 y) := by
  have h32 := hm.rl
  have hpc := ms_pc (k := k) (x := x) h32
  have hlen := ms_len (k := k) (x := x) h32
  have hpb := hm.pc
  have hcl := insC_len code
  obtain ⟨ca0, cn, cc, mm, g, n⟩ := k
  dsimp only at hk
  subst hk
  dsimp only at *
  unfold stepQ
  by_cases h0 : m.pc < 0
  · rw [if_pos h0]
    unfold mqH qP
    refine fn_intro Tryz.func48 Tryz.ntmps48 rfl rfl rfl (fun w0 => ?_)
    try simp only [List.cons_append, List.nil_append, List.append_nil]
    refine rr ?_
    refine dr [0, 1, 2, 3, 4, 5, 6, 7, 8, 9, 10, 11, 12, 13, 14, 15, 16] [3, 9, 13] [0] ?_
    refine rr ?_
    exact en x hx
  rw [if_neg h0]
  by_cases h1 : (code.length : Int) ≤ m.pc
  · rw [List.getElem?_eq_none (by omega)]
    unfold mqH qP
    refine fn_intro Tryz.func48 Tryz.ntmps48 rfl rfl rfl (fun w0 => ?_)
    try simp only [List.cons_append, List.nil_append, List.append_nil]
    refine rr ?_
    refine dr [0, 1, 2, 3, 4, 5, 6, 7, 8, 9, 10, 11, 12, 13, 14, 15, 16] [3, 9, 13] [0] ?_
    refine rr ?_
    exact en x hx
  obtain ⟨i, hi⟩ := some_at (l := code) (k := m.pc.toNat) (by omega)
  rw [hi]
  dsimp only
  have hall : ((insC code).drop (m.pc.toNat * 5)).take 5 = [.int .i64 i.op, .int .i64 i.a, .int .i64 i.b, .int .i64 i.c, .int .i64 i.imm] := insC_all hi _ (by omega)
  have hright := rightIC i
  cases hg : goodI i with
  | false =>
    rw [if_pos rfl]
    rw [hg] at hright
    unfold mqH qP inG at *
    refine fn_intro Tryz.func48 Tryz.ntmps48 rfl rfl rfl (fun w0 => ?_)
    try simp only [List.cons_append, List.nil_append, List.append_nil]
    refine w_use (fun w hw => (hw.pick 4 rfl).rng_some (by first | omega | decide | (simp; done) | (simp <;> omega))) ?_
    rintro ⟨g1, rfl⟩
    refine rr ?_
    refine dr [0, 1, 2, 3, 4, 5, 6, 7, 8, 9, 10, 11, 12, 13, 14, 15, 16] [3, 9, 13] [0] ?_
    refine rr ?_
    refine dr [0, 1, 2, 3, 4, 5, 6, 7, 8, 9, 10, 11] [3, 7, 9] [0, 4] ?_
    refine rr ?_
    intro b3 _
    refine rr ?_
    refine cl (hright) ?_
    intro _ _
    try simp only [List.cons_append, List.nil_append, List.append_nil]
    refine rr ?_
    exact en x hx
  | true =>
    rw [if_neg (by decide)]
    rw [hg] at hright
    have ha := actC (IA := IA) (L := L) c i m x hg hm hx
    have hma := hm.act i
    have hpa := act_pc (i := i) (m := m)
    have hr := rgI hg
    generalize actQ i m = r at *
    obtain ⟨tr, m1⟩ := r
    dsimp only at ha hma hpa ⊢
    have h321 := hma.rl
    have hrb := fun y => ms_reg (k := ⟨ca0, code.length, cc, mm, g, n⟩) (x := y) h321 hr.b.1 hr.b.2
    have hrc := fun y => ms_reg (k := ⟨ca0, code.length, cc, mm, g, n⟩) (x := y) h321 hr.c.1 hr.c.2
    have hrb0 := hr.b
    have hrc0 := hr.c
    have hra0 := hr.a
    by_cases ht : tr = 0
    · rw [if_neg (by simpa using ht)]
      subst ht
      have hk := reckonC i (rgQ m1 i.b) (rgQ m1 i.c) hg (by have := hr.imm; omega)
      generalize reckonQ i (rgQ m1 i.b) (rgQ m1 i.c) = v at *
      obtain ⟨v1, v2, v3⟩ := v
      unfold reckonV at hk
      dsimp only at hk ⊢
      by_cases hv2 : v2 = 0
      · rw [if_neg (by simpa using hv2)]
        subst hv2
        cases v3 with
        | false =>
          simp only [if_neg (show ¬ (false = true) by decide)]
          have hn := fun y => nextC (k := ⟨ca0, code.length, cc, mm, g, n⟩) (x := y) c i m1 hg hma
          have hnl : ({ nextQ i m1 with pc := m1.pc } : MS).regs.length = 32 := by show (nextQ i m1).regs.length = 32; rw [nextQ_len, h321]
          have hsp := fun y => ms_setPc (k := ⟨ca0, code.length, cc, mm, g, n⟩) (x := y) hnl (nextQ i m1).pc
          have hn1 := nextQ_mem i m1
          have hn2 := nextQ_out i m1
          have hn3 := nextQ_inp i m1
          have hll := fun y => ms_len (k := ⟨ca0, code.length, cc, mm, g, n⟩) (x := y) hnl
          generalize nextQ i m1 = m2 at *
          unfold mqH qP inG at *
          dsimp only at *
          refine fn_intro Tryz.func48 Tryz.ntmps48 rfl rfl rfl (fun w0 => ?_)
          try simp only [List.cons_append, List.nil_append, List.append_nil]
          refine w_use (fun w hw => (hw.pick 4 rfl).rng_some (by first | omega | decide | (simp; done) | (simp <;> omega))) ?_
          rintro ⟨g1, rfl⟩
          refine rr ?_
          refine dr [0, 1, 2, 3, 4, 5, 6, 7, 8, 9, 10, 11, 12, 13, 14, 15, 16] [3, 9, 13] [0] ?_
          refine rr ?_
          refine dr [0, 1, 2, 3, 4, 5, 6, 7, 8, 9, 10, 11] [3, 7, 9] [0, 4] ?_
          refine rr ?_
          intro b3 _
          refine rr ?_
          refine cl (hright) ?_
          intro _ _
          try simp only [List.cons_append, List.nil_append, List.append_nil]
          refine rr ?_
          refine cl (ha) ?_
          intro y hy
          try simp only [List.cons_append, List.nil_append, List.append_nil]
          have hrb := hrb y
          have hrc := hrc y
          have hll := hll y
          refine rr ?_
          refine dr [0, 1, 2, 3, 4, 5, 6, 7, 8, 9, 10, 11, 12, 13, 14, 15, 16, 17, 18, 19, 20, 21, 22] [0, 3, 7, 10, 14] [0, 4] ?_
          refine rr ?_
          refine cle (hk) ?_
          intro _ _
          try simp only [List.cons_append, List.nil_append, List.append_nil]
          refine rr ?_
          refine cl (hn y) ?_
          intro _ _
          try simp only [List.cons_append, List.nil_append, List.append_nil]
          refine rr ?_
          rw [hsp y, ← hn1, ← hn2]
          exact en y (hy.same hn3 rfl rfl)
        | true =>
          simp only [if_true]
          have hms := hma.set i.a v1
          have hst := fun y => setC (k := ⟨ca0, code.length, cc, mm, g, n⟩) (m := m1) (x := y) c i.a v1 h321 hr.a
          have hi1 := setQ_mem i.a v1 m1
          have hi2 := setQ_out i.a v1 m1
          have hi3 := setQ_inp i.a v1 m1
          generalize setQ i.a v1 m1 = m3 at *
          have h323 := hms.rl
          have hn := fun y => nextC (k := ⟨ca0, code.length, cc, mm, g, n⟩) (x := y) c i m3 hg hms
          have hnl : ({ nextQ i m3 with pc := m3.pc } : MS).regs.length = 32 := by show (nextQ i m3).regs.length = 32; rw [nextQ_len, h323]
          have hsp := fun y => ms_setPc (k := ⟨ca0, code.length, cc, mm, g, n⟩) (x := y) hnl (nextQ i m3).pc
          have hn1 := nextQ_mem i m3
          have hn2 := nextQ_out i m3
          have hn3 := nextQ_inp i m3
          have hll := fun y => ms_len (k := ⟨ca0, code.length, cc, mm, g, n⟩) (x := y) hnl
          generalize nextQ i m3 = m2 at *
          unfold mqH qP inG at *
          dsimp only at *
          refine fn_intro Tryz.func48 Tryz.ntmps48 rfl rfl rfl (fun w0 => ?_)
          try simp only [List.cons_append, List.nil_append, List.append_nil]
          refine w_use (fun w hw => (hw.pick 4 rfl).rng_some (by first | omega | decide | (simp; done) | (simp <;> omega))) ?_
          rintro ⟨g1, rfl⟩
          refine rr ?_
          refine dr [0, 1, 2, 3, 4, 5, 6, 7, 8, 9, 10, 11, 12, 13, 14, 15, 16] [3, 9, 13] [0] ?_
          refine rr ?_
          refine dr [0, 1, 2, 3, 4, 5, 6, 7, 8, 9, 10, 11] [3, 7, 9] [0, 4] ?_
          refine rr ?_
          intro b3 _
          refine rr ?_
          refine cl (hright) ?_
          intro _ _
          try simp only [List.cons_append, List.nil_append, List.append_nil]
          refine rr ?_
          refine cl (ha) ?_
          intro y hy
          try simp only [List.cons_append, List.nil_append, List.append_nil]
          have hrb := hrb y
          have hrc := hrc y
          refine rr ?_
          refine dr [0, 1, 2, 3, 4, 5, 6, 7, 8, 9, 10, 11, 12, 13, 14, 15, 16, 17, 18, 19, 20, 21, 22] [0, 3, 7, 10, 14] [0, 4] ?_
          refine rr ?_
          refine cle (hk) ?_
          intro _ _
          try simp only [List.cons_append, List.nil_append, List.append_nil]
          have hll := hll y
          refine rr ?_
          refine cl (hst y) ?_
          intro _ _
          try simp only [List.cons_append, List.nil_append, List.append_nil]
          refine rr ?_
          refine cl (hn y) ?_
          intro _ _
          try simp only [List.cons_append, List.nil_append, List.append_nil]
          refine rr ?_
          rw [hsp y, ← hi1, ← hi2, ← hn1, ← hn2]
          exact en y (hy.same (hn3.trans hi3) rfl rfl)
      · rw [if_pos (by simpa using hv2)]
        unfold mqH qP inG at *
        dsimp only at *
        refine fn_intro Tryz.func48 Tryz.ntmps48 rfl rfl rfl (fun w0 => ?_)
        try simp only [List.cons_append, List.nil_append, List.append_nil]
        refine w_use (fun w hw => (hw.pick 4 rfl).rng_some (by first | omega | decide | (simp; done) | (simp <;> omega))) ?_
        rintro ⟨g1, rfl⟩
        refine rr ?_
        refine dr [0, 1, 2, 3, 4, 5, 6, 7, 8, 9, 10, 11, 12, 13, 14, 15, 16] [3, 9, 13] [0] ?_
        refine rr ?_
        refine dr [0, 1, 2, 3, 4, 5, 6, 7, 8, 9, 10, 11] [3, 7, 9] [0, 4] ?_
        refine rr ?_
        intro b3 _
        refine rr ?_
        refine cl (hright) ?_
        intro _ _
        try simp only [List.cons_append, List.nil_append, List.append_nil]
        refine rr ?_
        refine cl (ha) ?_
        intro y hy
        try simp only [List.cons_append, List.nil_append, List.append_nil]
        have hrb := hrb y
        have hrc := hrc y
        refine rr ?_
        refine dr [0, 1, 2, 3, 4, 5, 6, 7, 8, 9, 10, 11, 12, 13, 14, 15, 16, 17, 18, 19, 20, 21, 22] [0, 3, 7, 10, 14] [0, 4] ?_
        refine rr ?_
        refine cle (hk) ?_
        intro _ _
        try simp only [List.cons_append, List.nil_append, List.append_nil]
        refine rr ?_
        exact en y hy
    · rw [if_pos (by simpa using ht)]
      unfold mqH qP inG at *
      dsimp only at *
      refine fn_intro Tryz.func48 Tryz.ntmps48 rfl rfl rfl (fun w0 => ?_)
      try simp only [List.cons_append, List.nil_append, List.append_nil]
      refine w_use (fun w hw => (hw.pick 4 rfl).rng_some (by first | omega | decide | (simp; done) | (simp <;> omega))) ?_
      rintro ⟨g1, rfl⟩
      refine rr ?_
      refine dr [0, 1, 2, 3, 4, 5, 6, 7, 8, 9, 10, 11, 12, 13, 14, 15, 16] [3, 9, 13] [0] ?_
      refine rr ?_
      refine dr [0, 1, 2, 3, 4, 5, 6, 7, 8, 9, 10, 11] [3, 7, 9] [0, 4] ?_
      refine rr ?_
      intro b3 _
      refine rr ?_
      refine cl (hright) ?_
      intro _ _
      try simp only [List.cons_append, List.nil_append, List.append_nil]
      refine rr ?_
      refine cl (ha) ?_
      intro y hy
      try simp only [List.cons_append, List.nil_append, List.append_nil]
      refine rr ?_
      exact en y hy
end Go.Proofs.YteddjcpaeoceeaaGreatDoor
namespace Go.Proofs.YteddjcpaeoceeaaGreatDoor
open Go Go.Sx Go.Sx.Chunk
set_option linter.unusedVariables false
set_option maxRecDepth 100000
set_option linter.unusedSimpArgs false
def resG (r : Int × Int × List Int × List Int) (z : Option Addr × Nat × Option Addr × Nat) : Value := .agg #[.int .i64 r.1, .int .i64 r.2.1, .slice z.1 r.2.2.1.length z.2.1, .slice z.2.2.1 r.2.2.2.length z.2.2.2]
def resH (r : Int × Int × List Int × List Int) (z : Option Addr × Nat × Option Addr × Nat) : List Chunk := [row z.1 z.2.1 3 1 r.2.2.1.length (i64C r.2.2.1), row z.2.2.1 z.2.2.2 3 1 r.2.2.2.length (i64C r.2.2.2)]
theorem runQ_zero (code : List In) (m : MS) : runQ code 0 m = (0, 0, m) := rfl
theorem runQ_succ (code : List In) (f : Nat) (m : MS) : runQ code (f + 1) m = if (stepQ code m).1 = 0 then ((runQ code f (stepQ code m).2).1, (runQ code f (stepQ code m).2).2.1 + 1, (runQ code f (stepQ code m).2).2.2) else ((stepQ code m).1, 1, (stepQ code m).2) := rfl
theorem ok0 (ca : Option Addr) (cn cc mm g n : Nat) (inp : List Int) (hn : n ≤ 32000) : OkM ⟨ca, cn, cc, mm, g, n⟩ (ms0 n inp) := by
  refine ⟨by simp [ms0], ?_, by simp [ms0], ?_, by simp [ms0], by simp [ms0], hn⟩
  · intro r hr
    simp only [ms0, List.mem_replicate] at hr
    rw [hr.2]; exact ⟨by decide, by decide⟩
  · intro r hr
    simp only [ms0, List.mem_replicate] at hr
    rw [hr.2]; exact ⟨by decide, by decide⟩
set_option maxHeartbeats 8000000 in
theorem runC (ca0 : Option Addr) (cc : Nat) (code : List In) (mem : Int) (ia : Option Addr) (ic : Nat) (inp : List Int) (fuel : Int) (hf : fuel ≤ 9223372036854775807) (hil : inp.length ≤ 1000000) : FnC Tryz.prog 17 [.slice ca0 code.length cc, .int .i64 mem, .slice ia inp.length ic, .int .i64 fuel] [] [rng ca0 (insC code), rng ia (i64C inp)] (fun z => resG (seqQ code mem inp fuel) z) (fun z => resH (seqQ code mem inp fuel) z) (fun _ => True) := by
  unfold seqQ
  by_cases hbad : mem < 0 ∨ 32000 < mem
  · rw [if_pos (by omega)]
    have h1 := newBad mem hbad
    unfold resG resH
    by_cases hcl : (code.length : Int) > 4096
    · skip
      refine fn_intro Tryz.func17 Tryz.ntmps17 rfl rfl rfl (fun w0 => ?_)
      try simp only [List.cons_append, List.nil_append, List.append_nil]
      refine rr ?_
      intro b8 _
      refine rr ?_
      refine cl (h1) ?_
      intro _ _
      try simp only [List.cons_append, List.nil_append, List.append_nil]
      refine rr ?_
      exact en (none, 0, none, 0) trivial
    · skip
      refine fn_intro Tryz.func17 Tryz.ntmps17 rfl rfl rfl (fun w0 => ?_)
      try simp only [List.cons_append, List.nil_append, List.append_nil]
      refine rr ?_
      intro b8 _
      refine rr ?_
      refine cl (h1) ?_
      intro _ _
      try simp only [List.cons_append, List.nil_append, List.append_nil]
      refine rr ?_
      exact en (none, 0, none, 0) trivial
  · obtain ⟨n, rfl⟩ : ∃ n : Nat, mem = n := ⟨mem.toNat, by omega⟩
    have h1 := newOk n (by omega)
    by_cases hcl : (code.length : Int) > 4096
    · rw [if_pos (by omega)]
      unfold resG resH
      unfold memH mP at h1
      refine fn_intro Tryz.func17 Tryz.ntmps17 rfl rfl rfl (fun w0 => ?_)
      try simp only [List.cons_append, List.nil_append, List.append_nil]
      refine rr ?_
      intro b8 _
      refine rr ?_
      refine cl (h1) ?_
      intro _ _
      try simp only [List.cons_append, List.nil_append, List.append_nil]
      refine rr ?_
      exact en (none, 0, none, 0) trivial
    · rw [if_neg (by omega)]
      have h2 := cloneIC ia ic inp (by omega)
      rw [Int.toNat_natCast]
      generalize hR : runQ code fuel.toNat (ms0 n inp) = R
      dsimp only
      unfold memH mP at h1
      have hus := fun (mm g : Nat) (l : List Int) (hl : l.length = n) => usedC mm g n l (by omega) hl
      unfold memH mP at hus
      refine fn_intro Tryz.func17 Tryz.ntmps17 rfl rfl rfl (fun w0 => ?_)
      try simp only [List.cons_append, List.nil_append, List.append_nil]
      refine rr ?_
      intro b8 _
      refine rr ?_
      refine cl (h1) ?_
      intro ⟨mm, g⟩ _
      try simp only [List.cons_append, List.nil_append, List.append_nil]
      refine rr ?_
      refine cl (h2) ?_
      intro ⟨ja, jc⟩ _
      try simp only [List.cons_append, List.nil_append, List.append_nil]
      refine rr ?_
      intro c _
      refine rr ?_
      intro b11 _
      refine rr ?_
      have hstep := fun IA L m x (h1 : OkM ⟨ca0, code.length, cc, mm, g, n⟩ m) (h2 : OkIn IA L m x) => stepC c code m x rfl (by omega) h1 h2
      unfold mqH qP at hstep
      dsimp only at hstep
      refine hv ([blk c (msC ⟨ca0, code.length, cc, mm, g, n⟩ (ms0 n inp) ⟨ja, jc, none, 0⟩) 116, blk mm [.slice (some ⟨g, 0, none⟩) n n] 161, row (some ⟨g, 0, none⟩) n 3 1 n (i64C (ms0 n inp).mem), row none 0 3 1 0 (i64C []), blk b11 [.int .i64 0, .int .i64 ((0 : Nat) : Int), .slice none 0 0, .slice none 0 0] 48, row ja jc 3 1 inp.length (i64C inp), blk b8 [.int .i64 0, .int .i64 0, .slice none 0 0, .slice none 0 0] 48, rng ca0 (insC code), rng ia (i64C inp)]) ?_
      refine w_use (fun w hw => (hw.pick 5 rfl).row_cap) fun hcap => ?_
      refine w_use (p := inp ≠ [] → ∃ g1, ja = some ⟨g1, 0, none⟩) (fun w hw h => (hw.pick 5 rfl).row_some (List.length_pos_iff.2 h)) fun hsome => ?_
      obtain ⟨g1, hIA⟩ : ∃ g1 : Nat, inp ≠ [] → ja = some ⟨g1, 0, none⟩ := by
        by_cases h : inp = []
        · exact ⟨0, fun h2 => absurd h h2⟩
        · obtain ⟨g1, hg1⟩ := hsome h; exact ⟨g1, fun _ => hg1⟩
      have hlend : ∀ (R : List Chunk) (j : Nat), nthC R j = some (row ja jc 3 1 inp.length (i64C inp)) → LendsAll R [inB ⟨g1, 0, none⟩ inp] := fun R j hj => by
        by_cases h : inp = []
        · rw [h]; exact lend_nil trivial
        · rw [hIA h] at hj; exact lend_row hj trivial
      refine lo [3, 8, 9, 10, 11] (fun z : Nat × Int × MS × Aq => []) (fun z => [(0, blk c (msC ⟨ca0, code.length, cc, mm, g, n⟩ z.2.2.1 z.2.2.2) 116), (2, row (some ⟨g, 0, none⟩) n 3 1 n (i64C z.2.2.1.mem)), (3, row z.2.2.2.oa z.2.2.2.oc 3 1 z.2.2.1.out.length (i64C z.2.2.1.out)), (4, blk b11 [.int .i64 z.2.1, .int .i64 (z.1 : Int), .slice none 0 0, .slice none 0 0] 48)])
        (fun z => OkM ⟨ca0, code.length, cc, mm, g, n⟩ z.2.2.1 ∧ OkIn ⟨g1, 0, none⟩ inp z.2.2.1 z.2.2.2 ∧ z.1 ≤ fuel.toNat ∧ (z.2.1 = 0 → R = ((runQ code (fuel.toNat - z.1) z.2.2.1).1, (runQ code (fuel.toNat - z.1) z.2.2.1).2.1 + z.1, (runQ code (fuel.toNat - z.1) z.2.2.1).2.2)) ∧ (z.2.1 ≠ 0 → R = (z.2.1, (z.1 : Int), z.2.2.1))) (fun z => fuel.toNat - z.1 + (if z.2.1 = 0 then 1 else 0)) (0, 0, ms0 n inp, ⟨ja, jc, none, 0⟩) ⟨ok0 _ _ _ _ _ _ _ (by omega), ⟨fun h => ⟨0, rfl, by rw [hIA h]; rfl⟩, hcap⟩, Nat.zero_le _, fun _ => by rw [← hR]; simp, fun h => absurd rfl h⟩ ?_
      rintro ⟨st, tr, m, y⟩ ⟨hm, hin, hst, hr0, hr1⟩ K1 hK1
      dsimp only at hm hin hst hr0 hr1 ⊢
      by_cases hgo : tr = 0 ∧ (st : Int) < fuel
      · obtain ⟨htr, hlt⟩ := hgo
        subst htr
        have hr0 := hr0 rfl
        obtain ⟨f, hf1⟩ : ∃ f, fuel.toNat - st = f + 1 := ⟨fuel.toNat - st - 1, by omega⟩
        rw [hf1, runQ_succ] at hr0
        have hs := hstep ⟨g1, 0, none⟩ inp m y hm hin
        have hms := hm.step (code := code) (by omega)
        generalize stepQ code m = q at *
        obtain ⟨tr2, m2⟩ := q
        dsimp only at hs hms hr0
        refine rr ?_
        refine cl (hs) ?_ (hl := lend_cons rfl (by repeat (first | exact find_here | apply find_there)) (hlend _ _ (by repeat (first | exact find_here | apply find_there))))
        intro y2 hy2
        simp only [List.cons_append, List.nil_append]
        refine rr ?_
        refine ro hK1 (st + 1, tr2, m2, y2) ⟨hms, hy2, by dsimp only; omega, ?_, ?_⟩ (hμ := ?_)
        · intro h
          dsimp only at h ⊢
          rw [if_pos h] at hr0
          rw [show fuel.toNat - (st + 1) = f by omega, hr0]
          simp only [Prod.mk.injEq, true_and, and_true]
          omega
        · intro h
          dsimp only at h ⊢
          rw [if_neg h] at hr0
          rw [hr0]
          simp only [Prod.mk.injEq, true_and, and_true]
          omega
        · dsimp only
          split <;> split <;> omega
      · have hR2 : R = (tr, (st : Int), m) := by
          by_cases h0 : tr = 0
          · have h1 := hr0 h0
            rw [show fuel.toNat - st = 0 by omega, runQ_zero] at h1
            rw [h1, h0]
            simp
          · exact hr1 h0
        rw [hR2]
        dsimp only
        have hus := hus mm g m.mem hm.ml
        have hou := ms_out (k := ⟨ca0, code.length, cc, mm, g, n⟩) (x := y) hm.rl
        unfold resG resH
        by_cases h0 : tr = 0
        · have hge : ¬ (st : Int) < fuel := fun h => hgo ⟨h0, h⟩
          refine rr ?_
          refine dr [0, 1, 2, 3, 4, 6, 5, 7, 8, 9] [3] [0] ?_
          refine rr ?_
          refine cld (hus) ?_
          intro z _
          try simp only [List.cons_append, List.nil_append, List.append_nil]
          refine rr ?_
          exact en (y.oa, y.oc, z.1, z.2) trivial
        · skip
          refine rr ?_
          refine dr [0, 1, 2, 3, 4, 6, 5, 7, 8, 9] [3] [0] ?_
          refine rr ?_
          refine cld (hus) ?_
          intro z _
          try simp only [List.cons_append, List.nil_append, List.append_nil]
          refine rr ?_
          exact en (y.oa, y.oc, z.1, z.2) trivial
end Go.Proofs.YteddjcpaeoceeaaGreatDoor
namespace Go.Proofs.YteddjcpaeoceeaaGreatDoor
open Go
set_option linter.unusedVariables false
set_option maxRecDepth 100000
set_option linter.unusedSimpArgs false
/-- So many steps lead from a state to another one. -/
def Goes (code : List In) (k : Nat) (m m' : MS) : Prop := ∀ f, runQ code (k + f) m = ((runQ code f m').1, (runQ code f m').2.1 + k, (runQ code f m').2.2)
theorem Goes.rf (code : List In) (m : MS) : Goes code 0 m m := fun f => by rw [Nat.zero_add]; simp
theorem Goes.tr {code : List In} {j k n : Nat} {a b c : MS} (h : Goes code j a b) (g : Goes code k b c) (hn : n = j + k := by rfl) : Goes code n a c := by
  subst hn
  intro f
  rw [Nat.add_assoc, h, g]
  simp only [Prod.mk.injEq, true_and, and_true]
  omega
theorem Goes.one {code : List In} {m m' : MS} (h : stepQ code m = (0, m')) : Goes code 1 m m' := by
  intro f
  rw [Nat.add_comm, runQ_succ, h]
  simp
/-- Behind the fetch. -/
def stepI (i : In) (m : MS) : Int × MS :=
  if (actQ i m).1 ≠ 0 then actQ i m else
  if (reckonQ i (rgQ (actQ i m).2 i.b) (rgQ (actQ i m).2 i.c)).2.1 ≠ 0 then ((reckonQ i (rgQ (actQ i m).2 i.b) (rgQ (actQ i m).2 i.c)).2.1, (actQ i m).2) else
  (0, nextQ i (if (reckonQ i (rgQ (actQ i m).2 i.b) (rgQ (actQ i m).2 i.c)).2.2 then setQ i.a (reckonQ i (rgQ (actQ i m).2 i.b) (rgQ (actQ i m).2 i.c)).1 (actQ i m).2 else (actQ i m).2))
theorem step_fetch {code : List In} {m : MS} {i : In} (h0 : 0 ≤ m.pc) (hi : code[m.pc.toNat]? = some i) (hg : goodI i = true) : stepQ code m = stepI i m := by
  unfold stepQ stepI
  rw [if_neg (by omega), hi]
  dsimp only
  rw [hg, if_neg (by decide)]
/-- A run that stops. -/
theorem run_stop {code : List In} {m m' : MS} {t : Int} {f : Nat} (h : stepQ code m = (t, m')) (ht : t ≠ 0) (hf : 1 ≤ f) : runQ code f m = (t, 1, m') := by
  obtain ⟨g, rfl⟩ : ∃ g, f = g + 1 := ⟨f - 1, by omega⟩
  rw [runQ_succ, h, if_neg ht]
theorem Goes.more {code : List In} {k : Nat} {a b c : MS} (h : Goes code 1 a b) (g : Goes code k b c) : Goes code (k + 1) a c := h.tr g (Nat.add_comm _ _)
theorem goes1 {code : List In} {R M I O : List Int} {p : Int} {i : In} {m' : MS} (h0 : decide (0 ≤ p) = true) (hi : code[p.toNat]? = some i) (hg : goodI i = true) (hs : stepI i ⟨R, M, p, I, O⟩ = (0, m')) : Goes code 1 ⟨R, M, p, I, O⟩ m' :=
  Goes.one ((step_fetch (by simpa using h0) hi hg).trans hs)
theorem stop1 {code : List In} {R M I O : List Int} {p : Int} {i : In} {m' : MS} {t : Int} {f : Nat} (h0 : decide (0 ≤ p) = true) (hi : code[p.toNat]? = some i) (hg : goodI i = true) (hs : stepI i ⟨R, M, p, I, O⟩ = (t, m')) (ht : t ≠ 0) (hf : 1 ≤ f) : runQ code f ⟨R, M, p, I, O⟩ = (t, 1, m') :=
  run_stop ((step_fetch (by simpa using h0) hi hg).trans hs) ht hf
/-- A run goes, and stops. -/
theorem Goes.stop {code : List In} {k f : Nat} {a b c : MS} {t : Int} (h : Goes code k a b) (hs : ∀ f, 1 ≤ f → runQ code f b = (t, 1, c)) (hf : k < f) : runQ code f a = (t, (k : Int) + 1, c) := by
  obtain ⟨g, rfl⟩ : ∃ g, f = k + g := ⟨f - k, by omega⟩
  rw [h, hs g (by omega)]
  simp only [Prod.mk.injEq, true_and, and_true]
  omega
theorem w32_tru (b : Bool) : w32 (truQ b) = truQ b := by cases b <;> exact w32_id (by decide)
theorem truQ_t : truQ true = 1 := rfl
theorem truQ_f : truQ false = 0 := rfl
theorem seqQ_of {code : List In} {n : Nat} {inp : List Int} {fuel k : Nat} {m c : MS} {t : Int} (hc : code.length ≤ 4096) (hn : n ≤ 32000) (h : Goes code k (ms0 n inp) m) (hs : ∀ f, 1 ≤ f → runQ code f m = (t, 1, c)) (hf : k < fuel) : seqQ code (n : Int) inp (fuel : Int) = (t, (k : Int) + 1, c.out, usedQ c.mem) := by
  unfold seqQ
  rw [if_neg (by omega)]
  dsimp only
  rw [Int.toNat_natCast, Int.toNat_natCast, h.stop hs hf]
/-- A machine that stops next, having told so much. -/
def Stops (code : List In) (m : MS) (t : Int) (out : List Int) : Prop := ∀ f, 1 ≤ f → ∃ c, runQ code f m = (t, 1, c) ∧ c.out = out
theorem seq_ex {code : List In} {n : Nat} {inp out : List Int} {fuel k : Nat} {m : MS} {t : Int} (hc : code.length ≤ 4096) (hn : n ≤ 32000) (h : Goes code k (ms0 n inp) m) (hs : Stops code m t out) (hf : k < fuel) : ∃ st u, seqQ code (n : Int) inp (fuel : Int) = (t, st, out, u) := by
  obtain ⟨g, rfl⟩ : ∃ g, fuel = k + g := ⟨fuel - k, by omega⟩
  obtain ⟨c, hc1, hc2⟩ := hs g (by omega)
  refine ⟨1 + (k : Int), usedQ c.mem, ?_⟩
  unfold seqQ
  rw [if_neg (by omega)]
  dsimp only
  rw [Int.toNat_natCast, Int.toNat_natCast, h, hc1, hc2]
theorem w32_0 : w32 0 = 0 := w32_id (by decide)
theorem w32_1 : w32 1 = 1 := w32_id (by decide)
theorem w32_w32 (n : Int) : w32 (w32 n) = w32 n := w32_id (w32_in n)
end Go.Proofs.YteddjcpaeoceeaaGreatDoor
namespace Go.Proofs.YteddjcpaeoceeaaGreatDoor.Cm
open Go
set_option linter.unusedVariables false
set_option maxRecDepth 100000
set_option linter.unusedSimpArgs false
def awT1 : List UInt8 := [112, 114, 111, 103, 114, 97, 109, 32, 97, 59, 32, 98, 101, 103, 105, 110, 32, 119, 114, 105, 116, 101, 32, 49, 43, 50, 32, 101, 110, 100, 46]
def awT2 : List UInt8 := [112, 114, 111, 103, 114, 97, 109, 32, 97, 59, 32, 98, 101, 103, 105, 110, 32, 120, 32, 58, 61, 32, 49, 32, 101, 110, 100, 46]
theorem aw1F : (compF awT1).2 = (0, 0) ∧ ((compF awT1).1.map fun o => (o.name, o.code.length)) = some (Sc.bs [97], 8) := by decide +kernel
theorem aw2F : compF awT2 = (none, 17, 5) := by decide +kernel
def nsA : List UInt8 := [112, 114, 111, 103, 114, 97, 109, 32, 97, 59, 32, 98, 101, 103, 105, 110, 32, 119, 114, 105, 116, 101, 32]
def nsB : List UInt8 := [32, 101, 110, 100, 46]
def nsC : List UInt8 := [112, 114, 111, 103, 114, 97, 109, 32, 97, 59, 32, 98, 101, 103, 105, 110, 32]
def nsW : List UInt8 := [119, 114, 105, 116, 101, 32, 49]
def rep (l : List UInt8) : Nat → List UInt8
  | 0 => []
  | n + 1 => rep l n ++ l
def nsIf : List UInt8 := [105, 102, 32, 49, 32, 116, 104, 101, 110, 32]
def nsEnd : List UInt8 := [32, 101, 110, 100]
def nestA (m : Nat) : List UInt8 := nsA ++ rep [40] m ++ [49] ++ rep [41] m ++ nsB
def nestB (m : Nat) : List UInt8 := nsC ++ rep nsIf m ++ nsW ++ rep nsEnd m ++ nsB
theorem nestAF : ∀ m, m < 20 → (compF (nestA m)).2.2 = (if m ≤ 16 then 0 else 8) ∧ (16 < m → (compF (nestA m)).2.1 = 39) := by decide +kernel
theorem nestBF : ∀ m, m < 20 → (compF (nestB m)).2.2 = (if m ≤ 16 then 0 else 8) ∧ (16 < m → (compF (nestB m)).2.1 = 177) := by decide +kernel
end Go.Proofs.YteddjcpaeoceeaaGreatDoor.Cm
namespace Go.Proofs.YteddjcpaeoceeaaGreatDoor.Cm
open Go Go.Sx Go.Sx.Chunk
set_option linter.unusedVariables false
set_option maxRecDepth 100000
set_option linter.unusedSimpArgs false
theorem txt_mk (l : List UInt8) : Sc.txt ⟨l.toArray⟩ = l := Sc.txt_bs l
set_option maxRecDepth 100000 in
theorem awakeC : FnC (α := Unit) Tryz.prog 12 [] [] [spaceV] (fun _ => .bool true) (fun _ => []) (fun _ => True) := by
  have h1 := compileC (Sc.bs awT1) (by decide +kernel)
  have h2 := compileC (Sc.bs awT2) (by decide +kernel)
  have f1 := aw1F
  have f2 := aw2F
  rw [Sc.txt_bs] at h1 h2
  unfold compO at h1 h2
  generalize compF awT1 = r1 at *
  generalize compF awT2 = r2 at *
  obtain ⟨o1, p1, e1⟩ := r1
  subst f2
  obtain ⟨f1a, f1b⟩ := f1
  dsimp only at *
  cases f1a
  cases o1 with
  | none => cases f1b
  | some o =>
    simp only [Option.map_some, Option.some.injEq, Prod.mk.injEq] at f1b
    obtain ⟨hn, hc⟩ := f1b
    simp only [Option.getD_some, Option.getD_none] at h1 h2
    unfold o6G o6H at h1 h2
    have hn2 : o.name = ⟨#[97]⟩ := hn
    rw [hc, hn2] at h1
    unfold ob0 at h2
    refine fn_intro Tryz.func12 Tryz.ntmps12 rfl rfl rfl (fun w0 => ?_)
    try simp only [List.cons_append, List.nil_append, List.append_nil]
    refine rr ?_
    refine cl (h1) ?_
    intro x _
    try simp only [List.cons_append, List.nil_append, List.append_nil]
    refine rr ?_
    intro b1 _
    refine rr ?_
    refine cl (h2) ?_
    intro y _
    try simp only [List.cons_append, List.nil_append, List.append_nil]
    refine rr ?_
    intro b4 _
    refine rr ?_
    exact en () trivial
end Go.Proofs.YteddjcpaeoceeaaGreatDoor.Cm
namespace Go.Proofs.YteddjcpaeoceeaaGreatDoor.Cm
open Go Go.Sx Go.Sx.Chunk
set_option linter.unusedVariables false
set_option maxRecDepth 100000
set_option linter.unusedSimpArgs false
theorem linkOneC (b : Nat) (o : Ob6) (x : Ax) (mem : Int) (hok : OkOb (obOf o x)) : FnC Tryz.prog 15 [.slice (some ⟨b, 0, none⟩) 1 1, .int .i64 mem] (blk b (o6V o x) 36 :: o6H o x) [] (fun z : Option Addr × Nat => linkV (link1 o mem) z) (fun z => row z.1 z.2 140 5 (link1 o mem).1.length (insC (link1 o mem).1) :: blk b (o6V o x) 36 :: o6H o x) (fun _ => True) := by
  have h := linkC (some ⟨b, 0, none⟩) 1 [obOf o x] mem (Nat.le_of_ble_eq_true rfl) (fun q hq => by simp only [List.mem_cons, List.not_mem_nil, or_false] at hq; rw [hq]; exact hok)
  rw [linkF_obOf] at h
  refine h.frame [] rfl ?_ (fun _ => rfl)
  refine lend_blk (k := 0) rfl (lend_prov rfl (prov_see (fun c hc => ?_)) trivial)
  simp only [List.flatMap_cons, List.flatMap_nil, List.append_nil, obS, List.mem_cons, List.not_mem_nil, or_false] at hc
  rcases hc with rfl | rfl | rfl | rfl
  · exact row_rng.one (prov_mem (nthC_mem (i := 1) rfl))
  · exact row_rng.one (prov_mem (nthC_mem (i := 3) rfl))
  · exact row_rng.one (prov_mem (nthC_mem (i := 4) rfl))
  · exact row_rng.one (prov_mem (nthC_mem (i := 2) rfl))
set_option maxHeartbeats 4000000 in
theorem runLC (s : ByteArray) (o : Ob6) (code : List In) (data : Int) (ia : Option Addr) (ic : Nat) (inp : List Int) (hs : s.size ≤ 1000000) (hc : compF (Sc.txt s) = (some o, 0, 0)) (hok : ∀ x, OkOb (obOf o x)) (hl : link1 o 60 = (code, data, 0)) (hil : inp.length ≤ 1000000) :
    FnC Tryz.prog 24 [.string s, .slice ia inp.length ic] [] [spaceV, rng ia (i64C inp)] (fun z => resG (seqQ code 60 inp 20000) z) (fun z => resH (seqQ code 60 inp 20000) z) (fun _ => True) := by
  have h1 := compileC s hs
  unfold compO at h1
  rw [hc] at h1
  simp only [Option.getD_some] at h1
  have h2 := fun b x => linkOneC b o x 60 (hok x)
  rw [hl] at h2
  have h3 := fun ca cc => runC ca cc code 60 ia ic inp 20000 (by decide) hil
  unfold linkV at h2
  dsimp only at h1 h2
  unfold o6G o6H at h1
  unfold o6H o6V at h2
  unfold resG resH at *
  refine fn_intro Tryz.func24 Tryz.ntmps24 rfl rfl rfl (fun w0 => ?_)
  try simp only [List.cons_append, List.nil_append, List.append_nil]
  refine rr ?_
  intro b4 _
  refine rr ?_
  refine cl (h1) ?_
  intro x _
  try simp only [List.cons_append, List.nil_append, List.append_nil]
  refine rr ?_
  intro b5 _
  refine rr ?_
  intro b6 _
  refine rr ?_
  refine cl (h2 b6 x) ?_
  intro z _
  try simp only [List.cons_append, List.nil_append, List.append_nil]
  refine rr ?_
  intro b8 _
  refine rr ?_
  refine cl (h3 z.1 z.2) ?_
  intro y _
  try simp only [List.cons_append, List.nil_append, List.append_nil]
  refine rr ?_
  exact en y trivial
theorem tellsC (L used : List Int) (steps : Int) (z : Option Addr × Nat × Option Addr × Nat) (wa : Option Addr) (wc : Nat) (hl : L.length ≤ 1000000) :
    FnC (α := Unit) Tryz.prog 23 [resG (1, steps, L, used) z, .slice wa L.length wc] [] [rng z.1 (i64C L), rng wa (i64C L)] (fun _ => .bool true) (fun _ => []) (fun _ => True) := by
  have hlen := i64C_len L
  obtain ⟨oa, oc, ua, uc⟩ := z
  unfold resG
  refine fn_intro Tryz.func23 Tryz.ntmps23 rfl rfl rfl (fun w0 => ?_)
  try simp only [List.cons_append, List.nil_append, List.append_nil]
  refine rr ?_
  intro b2 _
  refine rr ?_
  refine lo [1, 2, 18] (fun k : Nat => [(19, .int .i64 (k : Int))]) (fun k => []) (fun k => k ≤ L.length) (fun k => L.length - k) 0 (Nat.zero_le _) ?_
  intro k hk K1 hK1
  dsimp only at hk ⊢
  by_cases hlt : k < L.length
  · obtain ⟨v, hvk⟩ := some_at hlt
    have hg := i64C_get hvk
    have hget : (i64C L)[(k : Int).toNat * 1]? = some (.int .i64 v) := by rw [show (k : Int).toNat * 1 = k by omega]; exact hg
    refine w_use (fun w hw => (hw.pick 1 rfl).rng_some (by omega)) ?_
    rintro ⟨g1, rfl⟩
    refine w_use (fun w hw => (hw.pick 2 rfl).rng_some (by omega)) ?_
    rintro ⟨g2, rfl⟩
    refine rr ?_
    refine dr [0, 1, 2, 3, 4, 5, 6, 7, 8, 9] [1, 4, 8] [0, 1, 2] ?_
    refine rr ?_
    exact ro hK1 (k + 1) (by omega)
  · obtain rfl : k = L.length := by omega
    refine rr ?_
    exact en () trivial
end Go.Proofs.YteddjcpaeoceeaaGreatDoor.Cm
namespace Go.Proofs.YteddjcpaeoceeaaGreatDoor.Cm
open Go
set_option linter.unusedVariables false
set_option maxRecDepth 100000
set_option linter.unusedSimpArgs false
def opsC : List In := [⟨17, 0, 0, 0, 1⟩, ⟨10, 29, 0, 0, 10⟩, ⟨20, 0, 0, 0, 1⟩, ⟨13, 4, 0, 0, 0⟩, ⟨20, 0, 0, 0, 1⟩, ⟨13, 4, 0, 0, 1⟩, ⟨12, 8, 0, 0, 0⟩, ⟨12, 9, 0, 0, 1⟩, ⟨1, 8, 8, 9, 0⟩, ⟨1, 4, 8, 0, 0⟩, ⟨20, 0, 0, 0, 2⟩, ⟨12, 8, 0, 0, 0⟩, ⟨12, 9, 0, 0, 1⟩, ⟨2, 8, 8, 9, 0⟩, ⟨1, 4, 8, 0, 0⟩, ⟨20, 0, 0, 0, 2⟩, ⟨12, 8, 0, 0, 0⟩, ⟨12, 9, 0, 0, 1⟩, ⟨3, 8, 8, 9, 0⟩, ⟨1, 4, 8, 0, 0⟩, ⟨20, 0, 0, 0, 2⟩, ⟨12, 8, 0, 0, 0⟩, ⟨2, 8, 0, 8, 0⟩, ⟨1, 4, 8, 0, 0⟩, ⟨20, 0, 0, 0, 2⟩, ⟨12, 8, 0, 0, 0⟩, ⟨12, 9, 0, 0, 1⟩, ⟨9, 8, 8, 9, 0⟩, ⟨1, 4, 8, 0, 0⟩, ⟨20, 0, 0, 0, 2⟩, ⟨12, 8, 0, 0, 0⟩, ⟨12, 9, 0, 0, 1⟩, ⟨9, 8, 8, 9, 0⟩, ⟨9, 8, 8, 0, 0⟩, ⟨1, 4, 8, 0, 0⟩, ⟨20, 0, 0, 0, 2⟩, ⟨12, 8, 0, 0, 0⟩, ⟨12, 9, 0, 0, 1⟩, ⟨8, 8, 8, 9, 0⟩, ⟨1, 4, 8, 0, 0⟩, ⟨20, 0, 0, 0, 2⟩, ⟨12, 8, 0, 0, 0⟩, ⟨12, 9, 0, 0, 1⟩, ⟨8, 8, 9, 8, 0⟩, ⟨1, 4, 8, 0, 0⟩, ⟨20, 0, 0, 0, 2⟩, ⟨12, 8, 0, 0, 0⟩, ⟨12, 9, 0, 0, 1⟩, ⟨8, 8, 9, 8, 0⟩, ⟨9, 8, 8, 0, 0⟩, ⟨1, 4, 8, 0, 0⟩, ⟨20, 0, 0, 0, 2⟩, ⟨12, 8, 0, 0, 0⟩, ⟨12, 9, 0, 0, 1⟩, ⟨8, 8, 8, 9, 0⟩, ⟨9, 8, 8, 0, 0⟩, ⟨1, 4, 8, 0, 0⟩, ⟨20, 0, 0, 0, 2⟩, ⟨12, 8, 0, 0, 0⟩, ⟨9, 8, 8, 0, 0⟩, ⟨1, 4, 8, 0, 0⟩, ⟨20, 0, 0, 0, 2⟩, ⟨20, 0, 0, 0, 0⟩]
def opsL (a b : Int) : List Int := [w32 (a + b), w32 (a - b), w32 (a * b), w32 (-a), truQ (decide (a = b)), truQ (decide (¬ a = b)), truQ (decide (a < b)), truQ (decide (b < a)), truQ (decide (a ≤ b)), truQ (decide (b ≤ a)), truQ (decide (a = 0))]
theorem truQ_not (p q : Prop) [Decidable p] [Decidable q] (h : ¬ p ↔ q) : truQ (decide (truQ (decide p) = 0)) = truQ (decide q) := by
  by_cases hp : p
  · have hq : ¬ q := fun hq => h.2 hq hp
    simp [hp, hq, truQ]
  · have hq : q := h.1 hp
    simp [hp, hq, truQ]
theorem ops_run (a b : Int) (ha : w32 a = a) (hb : w32 b = b) : ∃ n u, seqQ opsC 10 [a, b] 1000 = (1, n, opsL a b, u) := by
  have w10 : w32 10 = 10 := w32_id (by decide)
  have hgo : ∃ m, Goes opsC 62 (ms0 10 [a, b]) m ∧ Stops opsC m 1 (opsL a b) := by
    rw [show ms0 10 [a, b] = ⟨[0, 0, 0, 0, 0, 0, 0, 0, 0, 0, 0, 0, 0, 0, 0, 0, 0, 0, 0, 0, 0, 0, 0, 0, 0, 0, 0, 0, 0, 0, 0, 0], [0, 0, 0, 0, 0, 0, 0, 0, 0, 0], 0, [a, b], []⟩ from rfl]
    refine ⟨?m1, ?a1, ?b1⟩
    case a1 =>
      iterate 62 (refine Goes.more (goes1 rfl rfl (by first | rfl | assumption) (by simp [stepI, actQ, sysQ, loadQ, reckonQ, reckQ, nextQ, rgQ, setQ, w32_w32, w32_tru, truQ_t, truQ_f, w32_0, w32_1, List.getD, ha, hb, w10]; try rfl)) ?_)
      exact Goes.rf _ _
    rw [show opsL a b = [w32 (a + b), w32 (a - b), w32 (a * b), w32 (-a), truQ (decide (a = b)), truQ (decide (truQ (decide (a = b)) = 0)), truQ (decide (a < b)), truQ (decide (b < a)), truQ (decide (truQ (decide (b < a)) = 0)), truQ (decide (truQ (decide (a < b)) = 0)), truQ (decide (a = 0))] by
      unfold opsL
      rw [truQ_not (a = b) (¬ a = b) Iff.rfl, truQ_not (b < a) (a ≤ b) (by omega), truQ_not (a < b) (b ≤ a) (by omega)]]
    exact fun f hf => ⟨_, stop1 rfl rfl rfl (by simp [stepI, actQ, sysQ, loadQ, reckonQ, reckQ, nextQ, rgQ, setQ, w32_w32, w32_tru, truQ_t, truQ_f, w32_0, w32_1, List.getD]; try rfl) (by decide) hf, rfl⟩
  obtain ⟨m, h1, h2⟩ := hgo
  exact seq_ex (n := 10) (fuel := 1000) (by decide) (by decide) h1 h2 (by decide)
end Go.Proofs.YteddjcpaeoceeaaGreatDoor.Cm
namespace Go.Proofs.YteddjcpaeoceeaaGreatDoor.Cm
open Go
set_option linter.unusedVariables false
set_option maxRecDepth 100000
set_option linter.unusedSimpArgs false
def ifsC : List In := [⟨17, 0, 0, 0, 1⟩, ⟨10, 29, 0, 0, 60⟩, ⟨20, 0, 0, 0, 1⟩, ⟨13, 4, 0, 0, 0⟩, ⟨20, 0, 0, 0, 1⟩, ⟨13, 4, 0, 0, 1⟩, ⟨12, 8, 0, 0, 0⟩, ⟨12, 9, 0, 0, 1⟩, ⟨8, 8, 8, 9, 0⟩, ⟨15, 8, 0, 0, 7⟩, ⟨12, 8, 0, 0, 1⟩, ⟨1, 4, 8, 0, 0⟩, ⟨20, 0, 0, 0, 2⟩, ⟨12, 8, 0, 0, 0⟩, ⟨1, 4, 8, 0, 0⟩, ⟨20, 0, 0, 0, 2⟩, ⟨17, 0, 0, 0, 23⟩, ⟨12, 8, 0, 0, 0⟩, ⟨1, 4, 8, 0, 0⟩, ⟨20, 0, 0, 0, 2⟩, ⟨12, 8, 0, 0, 1⟩, ⟨1, 4, 8, 0, 0⟩, ⟨20, 0, 0, 0, 2⟩, ⟨12, 8, 0, 0, 0⟩, ⟨12, 9, 0, 0, 1⟩, ⟨9, 8, 8, 9, 0⟩, ⟨15, 8, 0, 0, 4⟩, ⟨10, 8, 0, 0, 1⟩, ⟨1, 4, 8, 0, 0⟩, ⟨20, 0, 0, 0, 2⟩, ⟨17, 0, 0, 0, 39⟩, ⟨12, 8, 0, 0, 0⟩, ⟨12, 9, 0, 0, 1⟩, ⟨9, 8, 8, 9, 0⟩, ⟨9, 8, 8, 0, 0⟩, ⟨15, 8, 0, 0, 3⟩, ⟨10, 8, 0, 0, 2⟩, ⟨1, 4, 8, 0, 0⟩, ⟨20, 0, 0, 0, 2⟩, ⟨20, 0, 0, 0, 0⟩]
theorem ms60 (inp : List Int) : ms0 60 inp = ⟨[0, 0, 0, 0, 0, 0, 0, 0, 0, 0, 0, 0, 0, 0, 0, 0, 0, 0, 0, 0, 0, 0, 0, 0, 0, 0, 0, 0, 0, 0, 0, 0], 0 :: 0 :: List.replicate 58 0, 0, inp, []⟩ := rfl
theorem ifs_run (a b : Int) (ha : w32 a = a) (hb : w32 b = b) : ∃ n u, seqQ ifsC 60 [a, b] 20000 = (1, n, [max a b, min a b, if a = b then 1 else 2], u) := by
  have w60 : w32 60 = 60 := w32_id (by decide)
  have w2 : w32 2 = 2 := w32_id (by decide)
  have hcase : a < b ∨ a = b ∨ b < a := by omega
  rcases hcase with h | h | h
  · have h1 : ¬ a = b := by omega
    have hM : max a b = b := by omega
    have hm : min a b = a := by omega
    rw [hM, hm, if_neg h1]
    have hgo : ∃ m, Goes ifsC 29 (ms0 60 [a, b]) m ∧ Stops ifsC m 1 [b, a, 2] := by
      rw [ms60]
      refine ⟨?m1, ?a1, ?b1⟩
      case a1 =>
        iterate 29 (refine Goes.more (goes1 rfl rfl (by first | rfl | assumption) (by simp [stepI, actQ, sysQ, loadQ, reckonQ, reckQ, nextQ, rgQ, setQ, w32_w32, w32_tru, truQ_t, truQ_f, w32_0, w32_1, List.getD, ha, hb, w60, w2, h, h1]; try rfl)) ?_)
        exact Goes.rf _ _
      exact fun f hf => ⟨_, stop1 rfl rfl rfl (by simp [stepI, actQ, sysQ, loadQ, reckonQ, reckQ, nextQ, rgQ, setQ, w32_w32, w32_tru, truQ_t, truQ_f, w32_0, w32_1, List.getD]; try rfl) (by decide) hf, rfl⟩
    obtain ⟨m, h1, h2⟩ := hgo
    exact seq_ex (n := 60) (fuel := 20000) (by decide) (by decide) h1 h2 (by decide)
  · subst h
    have hM : max a a = a := by omega
    have hm : min a a = a := by omega
    rw [hM, hm, if_pos rfl]
    have hgo : ∃ m, Goes ifsC 24 (ms0 60 [a, a]) m ∧ Stops ifsC m 1 [a, a, 1] := by
      rw [ms60]
      refine ⟨?m2, ?a2, ?b2⟩
      case a2 =>
        iterate 24 (refine Goes.more (goes1 rfl rfl (by first | rfl | assumption) (by simp [stepI, actQ, sysQ, loadQ, reckonQ, reckQ, nextQ, rgQ, setQ, w32_w32, w32_tru, truQ_t, truQ_f, w32_0, w32_1, List.getD, ha, hb, w60, w2]; try rfl)) ?_)
        exact Goes.rf _ _
      exact fun f hf => ⟨_, stop1 rfl rfl rfl (by simp [stepI, actQ, sysQ, loadQ, reckonQ, reckQ, nextQ, rgQ, setQ, w32_w32, w32_tru, truQ_t, truQ_f, w32_0, w32_1, List.getD]; try rfl) (by decide) hf, rfl⟩
    obtain ⟨m, h1, h2⟩ := hgo
    exact seq_ex (n := 60) (fuel := 20000) (by decide) (by decide) h1 h2 (by decide)
  · have h1 : ¬ a = b := by omega
    have hM : max a b = a := by omega
    have hm : min a b = b := by omega
    have hn : ¬ a < b := by omega
    rw [hM, hm, if_neg h1]
    have hgo : ∃ m, Goes ifsC 28 (ms0 60 [a, b]) m ∧ Stops ifsC m 1 [a, b, 2] := by
      rw [ms60]
      refine ⟨?m3, ?a3, ?b3⟩
      case a3 =>
        iterate 28 (refine Goes.more (goes1 rfl rfl (by first | rfl | assumption) (by simp [stepI, actQ, sysQ, loadQ, reckonQ, reckQ, nextQ, rgQ, setQ, w32_w32, w32_tru, truQ_t, truQ_f, w32_0, w32_1, List.getD, ha, hb, w60, w2, h1, hn]; try rfl)) ?_)
        exact Goes.rf _ _
      exact fun f hf => ⟨_, stop1 rfl rfl rfl (by simp [stepI, actQ, sysQ, loadQ, reckonQ, reckQ, nextQ, rgQ, setQ, w32_w32, w32_tru, truQ_t, truQ_f, w32_0, w32_1, List.getD]; try rfl) (by decide) hf, rfl⟩
    obtain ⟨m, h1, h2⟩ := hgo
    exact seq_ex (n := 60) (fuel := 20000) (by decide) (by decide) h1 h2 (by decide)
def echC : List In := [⟨17, 0, 0, 0, 1⟩, ⟨10, 29, 0, 0, 60⟩, ⟨20, 0, 0, 0, 1⟩, ⟨13, 4, 0, 0, 0⟩, ⟨12, 8, 0, 0, 0⟩, ⟨10, 9, 0, 0, 0⟩, ⟨8, 8, 9, 8, 0⟩, ⟨15, 8, 0, 0, 10⟩, ⟨20, 0, 0, 0, 1⟩, ⟨13, 4, 0, 0, 1⟩, ⟨12, 8, 0, 0, 1⟩, ⟨1, 4, 8, 0, 0⟩, ⟨20, 0, 0, 0, 2⟩, ⟨12, 8, 0, 0, 0⟩, ⟨10, 9, 0, 0, 1⟩, ⟨2, 8, 8, 9, 0⟩, ⟨13, 8, 0, 0, 0⟩, ⟨17, 0, 0, 0, 4⟩, ⟨20, 0, 0, 0, 0⟩]
/-- At the head of the loop. -/
def echS (r4 r8 r9 k x : Int) (I O : List Int) : MS := ⟨[0, 0, 0, 0, r4, 0, 0, 0, r8, r9, 0, 0, 0, 0, 0, 0, 0, 0, 0, 0, 0, 0, 0, 0, 0, 0, 0, 0, 0, 60, 0, 0], k :: x :: List.replicate 58 0, 4, I, O⟩
theorem ech_round (r4 r8 r9 x v : Int) (k : Nat) (I O : List Int) (hk : k < 100) (hv : w32 v = v) (ho : ¬ 10000 ≤ O.length) : ∃ a b c, Goes echC 14 (echS r4 r8 r9 ((k + 1 : Nat) : Int) x (v :: I) O) (echS a b c (k : Int) v I (O ++ [v])) := by
  have h0 : (0 : Int) < (k : Int) + 1 := by omega
  have h1 : w32 ((k : Int) + 1) = (k : Int) + 1 := w32_id (by omega)
  have h2 : w32 (k : Int) = (k : Int) := w32_id (by omega)
  have h3 : ((k : Int) + 1 - 1) = (k : Int) := by omega
  unfold echS
  rw [Int.natCast_add, show ((1 : Nat) : Int) = 1 from rfl]
  refine ⟨?a9, ?b9, ?c9, ?d9⟩
  case d9 =>
    iterate 14 (refine Goes.more (goes1 rfl rfl (by first | rfl | assumption) (by simp [stepI, actQ, sysQ, loadQ, reckonQ, reckQ, nextQ, rgQ, setQ, w32_w32, w32_tru, truQ_t, truQ_f, w32_0, w32_1, List.getD, h0, h1, h2, h3, hv, ho]; try rfl)) ?_)
    exact Goes.rf _ _
theorem ech_loop : ∀ (l : List Int) (r4 r8 r9 x : Int) (O : List Int), l.length ≤ 60 → O.length + l.length ≤ 1000 → (∀ v ∈ l, w32 v = v) → ∃ a b c y, Goes echC (14 * l.length) (echS r4 r8 r9 (l.length : Int) x l O) (echS a b c 0 y [] (O ++ l))
  | [], r4, r8, r9, x, O, _, _, _ => ⟨r4, r8, r9, x, by rw [List.append_nil]; exact Goes.rf _ _⟩
  | v :: l, r4, r8, r9, x, O, h1, h2, h3 => by
    simp only [List.length_cons] at h1 h2 ⊢
    obtain ⟨a, b, c, hr⟩ := ech_round r4 r8 r9 x v l.length l O (by omega) (h3 v (by simp)) (by omega)
    obtain ⟨a2, b2, c2, y, hl⟩ := ech_loop l a b c v (O ++ [v]) (by omega) (by simp; omega) (fun u hu => h3 u (by simp [hu]))
    rw [List.append_assoc] at hl
    exact ⟨a2, b2, c2, y, hr.tr hl (by omega)⟩
theorem ech_start (n : Int) (l : List Int) (hn : w32 n = n) : Goes echC 4 (ms0 60 (n :: l)) (echS n 0 0 n 0 l []) := by
  have w60 : w32 60 = 60 := w32_id (by decide)
  rw [ms60]
  unfold echS
  iterate 4 (refine Goes.more (goes1 rfl rfl (by first | rfl | assumption) (by simp [stepI, actQ, sysQ, loadQ, reckonQ, reckQ, nextQ, rgQ, setQ, w32_w32, w32_tru, truQ_t, truQ_f, w32_0, w32_1, List.getD, hn, w60]; try rfl)) ?_)
  exact Goes.rf _ _
theorem ech_end (r4 r8 r9 x : Int) (O : List Int) : ∃ m, Goes echC 4 (echS r4 r8 r9 0 x [] O) m ∧ Stops echC m 1 O := by
  unfold echS
  refine ⟨?m7, ?a7, ?b7⟩
  case a7 =>
    iterate 4 (refine Goes.more (goes1 rfl rfl (by first | rfl | assumption) (by simp [stepI, actQ, sysQ, loadQ, reckonQ, reckQ, nextQ, rgQ, setQ, w32_w32, w32_tru, truQ_t, truQ_f, w32_0, w32_1, List.getD]; try rfl)) ?_)
    exact Goes.rf _ _
  exact fun f hf => ⟨_, stop1 rfl rfl rfl (by simp [stepI, actQ, sysQ, loadQ, reckonQ, reckQ, nextQ, rgQ, setQ, w32_w32, w32_tru, truQ_t, truQ_f, w32_0, w32_1, List.getD]; try rfl) (by decide) hf, rfl⟩
theorem ech_run (l : List Int) (hl : l.length ≤ 50) (h : ∀ v ∈ l, w32 v = v) : ∃ n u, seqQ echC 60 ((l.length : Int) :: l) 20000 = (1, n, l, u) := by
  obtain ⟨a, b, c, y, h1⟩ := ech_loop l (l.length : Int) 0 0 0 [] (by omega) (by simp; omega) h
  obtain ⟨m, h2, h3⟩ := ech_end a b c y ([] ++ l)
  have h4 := ((ech_start (l.length : Int) l (w32_id (by omega))).tr h1 rfl).tr h2 rfl
  exact seq_ex (n := 60) (fuel := 20000) (by decide) (by decide) h4 h3 (by omega)
end Go.Proofs.YteddjcpaeoceeaaGreatDoor.Cm
namespace Go.Proofs.YteddjcpaeoceeaaGreatDoor.Cm
open Go
set_option linter.unusedVariables false
set_option maxRecDepth 100000
set_option linter.unusedSimpArgs false
def okB (o : Ob6) : Bool := decide (o.name.size ≤ 100) && decide (o.code.length ≤ 5000) && decide (o.exps.length ≤ 5000) && decide (o.imps.length ≤ 5000) && decide (o.pats.length ≤ 50000) && o.exps.all (fun x => decide (x.name.size ≤ 100)) && o.imps.all (fun x => decide (x.size ≤ 100))
theorem okB_ok {o : Ob6} (h : okB o = true) (x : Ax) : OkOb (obOf o x) := by
  unfold okB at h
  simp only [Bool.and_eq_true, decide_eq_true_eq, List.all_eq_true] at h
  obtain ⟨⟨⟨⟨⟨⟨h1, h2⟩, h3⟩, h4⟩, h5⟩, h6⟩, h7⟩ := h
  exact ⟨Nat.le_trans h1 (by unfold maxLen; omega), Nat.le_trans h2 (by omega), Nat.le_trans h3 (by omega), Nat.le_trans h4 (by omega), Nat.le_trans h5 (by omega), fun y hy => Nat.le_trans (h6 y hy) (by unfold maxLen; omega), fun y hy => Nat.le_trans (h7 y hy) (by unfold maxLen; omega)⟩
def factB (T : List UInt8) (mem : Int) (code : List In) (data : Int) : Bool := (compF T).1.isSome && decide ((compF T).2 = (0, 0)) && decide (link1 (compO T) mem = (code, data, 0)) && okB (compO T)
theorem fact_of {T : List UInt8} {mem : Int} {code : List In} {data : Int} (h : factB T mem code data = true) : compF T = (some (compO T), 0, 0) ∧ (∀ x, OkOb (obOf (compO T) x)) ∧ link1 (compO T) mem = (code, data, 0) := by
  unfold factB at h
  simp only [Bool.and_eq_true, decide_eq_true_eq] at h
  obtain ⟨⟨⟨h1, h2⟩, h3⟩, h4⟩ := h
  refine ⟨?_, okB_ok h4, h3⟩
  cases hc : (compF T).1 with
  | none => rw [hc] at h1; cases h1
  | some o =>
    have h5 : compO T = o := by unfold compO; rw [hc]; rfl
    rw [h5, ← hc, ← h2]
def opsT : List UInt8 := [112, 114, 111, 103, 114, 97, 109, 32, 97, 59, 32, 118, 97, 114, 32, 120, 59, 32, 118, 97, 114, 32, 121, 59, 32, 98, 101, 103, 105, 110, 32, 114, 101, 97, 100, 32, 120, 59, 32, 114, 101, 97, 100, 32, 121, 59, 32, 119, 114, 105, 116, 101, 32, 120, 32, 43, 32, 121, 59, 32, 119, 114, 105, 116, 101, 32, 120, 32, 45, 32, 121, 59, 32, 119, 114, 105, 116, 101, 32, 120, 32, 42, 32, 121, 59, 32, 119, 114, 105, 116, 101, 32, 45, 120, 59, 32, 119, 114, 105, 116, 101, 32, 120, 32, 61, 32, 121, 59, 32, 119, 114, 105, 116, 101, 32, 120, 32, 60, 62, 32, 121, 59, 32, 119, 114, 105, 116, 101, 32, 120, 32, 60, 32, 121, 59, 32, 119, 114, 105, 116, 101, 32, 120, 32, 62, 32, 121, 59, 32, 119, 114, 105, 116, 101, 32, 120, 32, 60, 61, 32, 121, 59, 32, 119, 114, 105, 116, 101, 32, 120, 32, 62, 61, 32, 121, 59, 32, 119, 114, 105, 116, 101, 32, 110, 111, 116, 32, 120, 32, 101, 110, 100, 46]
def divT : List UInt8 := [112, 114, 111, 103, 114, 97, 109, 32, 97, 59, 32, 118, 97, 114, 32, 120, 59, 32, 118, 97, 114, 32, 121, 59, 32, 98, 101, 103, 105, 110, 32, 114, 101, 97, 100, 32, 120, 59, 32, 114, 101, 97, 100, 32, 121, 59, 32, 119, 114, 105, 116, 101, 32, 120, 32, 100, 105, 118, 32, 121, 59, 32, 119, 114, 105, 116, 101, 32, 120, 32, 109, 111, 100, 32, 121, 32, 101, 110, 100, 46]
def lstT : List UInt8 := [112, 114, 111, 103, 114, 97, 109, 32, 97, 59, 32, 118, 97, 114, 32, 108, 91, 50, 48, 93, 59, 32, 118, 97, 114, 32, 110, 59, 32, 118, 97, 114, 32, 105, 59, 32, 118, 97, 114, 32, 120, 59, 32, 98, 101, 103, 105, 110, 32, 114, 101, 97, 100, 32, 110, 59, 32, 119, 104, 105, 108, 101, 32, 105, 32, 60, 32, 110, 32, 100, 111, 32, 114, 101, 97, 100, 32, 120, 59, 32, 108, 91, 105, 93, 32, 58, 61, 32, 120, 59, 32, 105, 32, 58, 61, 32, 105, 32, 43, 32, 49, 32, 101, 110, 100, 59, 32, 119, 104, 105, 108, 101, 32, 105, 32, 62, 32, 48, 32, 100, 111, 32, 105, 32, 58, 61, 32, 105, 32, 45, 32, 49, 59, 32, 119, 114, 105, 116, 101, 32, 108, 91, 105, 93, 32, 101, 110, 100, 32, 101, 110, 100, 46]
def calT : List UInt8 := [112, 114, 111, 103, 114, 97, 109, 32, 97, 59, 32, 118, 97, 114, 32, 120, 59, 32, 112, 114, 111, 99, 101, 100, 117, 114, 101, 32, 112, 40, 110, 41, 59, 32, 98, 101, 103, 105, 110, 32, 105, 102, 32, 110, 32, 62, 32, 48, 32, 116, 104, 101, 110, 32, 112, 40, 110, 32, 45, 32, 49, 41, 32, 101, 110, 100, 59, 32, 119, 114, 105, 116, 101, 32, 110, 32, 101, 110, 100, 59, 32, 98, 101, 103, 105, 110, 32, 114, 101, 97, 100, 32, 120, 59, 32, 112, 40, 120, 41, 32, 101, 110, 100, 46]
def echT : List UInt8 := [112, 114, 111, 103, 114, 97, 109, 32, 97, 59, 32, 118, 97, 114, 32, 110, 59, 32, 118, 97, 114, 32, 120, 59, 32, 98, 101, 103, 105, 110, 32, 114, 101, 97, 100, 32, 110, 59, 32, 119, 104, 105, 108, 101, 32, 110, 32, 62, 32, 48, 32, 100, 111, 32, 114, 101, 97, 100, 32, 120, 59, 32, 119, 114, 105, 116, 101, 32, 120, 59, 32, 110, 32, 58, 61, 32, 110, 32, 45, 32, 49, 32, 101, 110, 100, 32, 101, 110, 100, 46]
def ifsT : List UInt8 := [112, 114, 111, 103, 114, 97, 109, 32, 97, 59, 32, 118, 97, 114, 32, 120, 59, 32, 118, 97, 114, 32, 121, 59, 32, 98, 101, 103, 105, 110, 32, 114, 101, 97, 100, 32, 120, 59, 32, 114, 101, 97, 100, 32, 121, 59, 32, 105, 102, 32, 120, 32, 60, 32, 121, 32, 116, 104, 101, 110, 32, 119, 114, 105, 116, 101, 32, 121, 59, 32, 119, 114, 105, 116, 101, 32, 120, 32, 101, 108, 115, 101, 32, 119, 114, 105, 116, 101, 32, 120, 59, 32, 119, 114, 105, 116, 101, 32, 121, 32, 101, 110, 100, 59, 32, 105, 102, 32, 120, 32, 61, 32, 121, 32, 116, 104, 101, 110, 32, 119, 114, 105, 116, 101, 32, 49, 32, 101, 108, 115, 101, 32, 105, 102, 32, 120, 32, 60, 62, 32, 121, 32, 116, 104, 101, 110, 32, 119, 114, 105, 116, 101, 32, 50, 32, 101, 110, 100, 32, 101, 110, 100, 32, 101, 110, 100, 46]
theorem ifs_fact : factB ifsT 60 ifsC 2 = true := by decide +kernel
theorem ech_fact : factB echT 60 echC 2 = true := by decide +kernel
theorem ops_fact : factB opsT 10 opsC 2 = true := by decide +kernel
end Go.Proofs.YteddjcpaeoceeaaGreatDoor.Cm
namespace Go.Proofs.YteddjcpaeoceeaaGreatDoor.Cm
open Go Go.Sx Go.Sx.Chunk
set_option linter.unusedVariables false
set_option maxRecDepth 100000
set_option linter.unusedSimpArgs false
theorem wd_row {w0 : World} {M : Nat → Prop} {b e sz m : Nat} {cs : List Value} {R : List Chunk} {G : World → Prop} (h : Wd w0 M (row (some ⟨b, 0, none⟩) m e sz m cs :: R) G) (hl : cs.length = m * sz) (hm : m ≤ maxLen) : Wd w0 M (blk b cs e :: R) G := fun w hw => h w (hw.row_of_blk hl hm)
theorem w32_of {a : Int} (h : inK .i32 a) : w32 a = a := by
  have : -2147483648 ≤ a ∧ a ≤ 2147483647 := by simpa [inK, IntKind.min, IntKind.max, IntKind.signed, IntKind.bits] using h
  exact w32_id (by omega)
theorem ifs_runC (a b : Int) (ha : inK .i32 a) (hb : inK .i32 b) : ∃ n u, ∀ s, s = Sc.bs ifsT → ∀ ia ic, FnC Tryz.prog 24 [.string s, .slice ia 2 ic] [] [spaceV, rng ia [Value.int .i64 a, Value.int .i64 b]] (fun z => resG (1, n, [max a b, min a b, if a = b then 1 else 2], u) z) (fun z => resH (1, n, [max a b, min a b, if a = b then 1 else 2], u) z) (fun _ => True) := by
  obtain ⟨f1, f2, f3⟩ := fact_of ifs_fact
  obtain ⟨n, u, hrun⟩ := ifs_run a b (w32_of ha) (w32_of hb)
  refine ⟨n, u, fun s hs ia ic => ?_⟩
  subst hs
  have h1 := runLC (Sc.bs ifsT) (compO ifsT) ifsC 2 ia ic [a, b] (by decide +kernel) (by rw [Sc.txt_bs]; exact f1) f2 f3 (by simp)
  rw [hrun] at h1
  exact h1
end Go.Proofs.YteddjcpaeoceeaaGreatDoor.Cm
namespace Go.Proofs.YteddjcpaeoceeaaGreatDoor
open Go Go.Sx Go.Sx.Chunk
set_option linter.unusedVariables false
set_option maxRecDepth 100000
set_option linter.unusedSimpArgs false
theorem tmod_c (n : Int) {m : Int} (hm : 0 < m) : (0 ≤ n ∧ n.tmod m = n % m) ∨ (n < 0 ∧ n.tmod m = -((-n) % m)) := by
  by_cases h : 0 ≤ n
  · exact .inl ⟨h, Int.tmod_eq_emod_of_nonneg h⟩
  · refine .inr ⟨by omega, ?_⟩
    rw [← Int.tmod_eq_emod_of_nonneg (by omega : (0 : Int) ≤ -n), Int.neg_tmod, Int.neg_neg]
theorem w32_eq (n : Int) : w32 n = (n + 2147483648) % 4294967296 - 2147483648 := by
  unfold w32 IntKind.wrap
  simp [IntKind.bits, IntKind.signed]
  (try split) <;> omega
/-- What the reference's Wrap reckons. -/
def wrapR (n : Int) : Int :=
  let t := n.tmod 4294967296
  let t := if t < 0 then t + 4294967296 else t
  if 2147483647 < t then t - 4294967296 else t
theorem wrapR_eq (n : Int) : wrapR n = w32 n := by
  have h := tmod_c n (m := 4294967296) (by omega)
  rw [w32_eq]
  unfold wrapR
  dsimp only
  generalize n.tmod 4294967296 = t at *
  split <;> split <;> omega
theorem rwrapC (n : Int) : FnC (α := Unit) Tryz.prog 19 [.int .i64 n] [] [] (fun _ => .int .i64 (w32 n)) (fun _ => []) (fun _ => True) := by
  have h := tmod_c n (m := 4294967296) (by omega)
  have hw := w32_eq n
  rcases h with ⟨hn, ht⟩ | ⟨hn, ht⟩
  · have h0 : ¬ n % 4294967296 < 0 := by omega
    by_cases h1 : 2147483647 < n % 4294967296
    · have e : w32 n = n % 4294967296 - 4294967296 := by omega
      refine fn_intro Tryz.func19 Tryz.ntmps19 rfl rfl rfl (fun w0 => ?_)
      try simp only [List.cons_append, List.nil_append, List.append_nil]
      refine rr ?_
      exact en () trivial (hv := by rw [e]; rfl)
    · have e : w32 n = n % 4294967296 := by omega
      refine fn_intro Tryz.func19 Tryz.ntmps19 rfl rfl rfl (fun w0 => ?_)
      try simp only [List.cons_append, List.nil_append, List.append_nil]
      refine rr ?_
      exact en () trivial (hv := by rw [e]; rfl)
  obtain ⟨t, htt⟩ : ∃ t, n.tmod 4294967296 = t := ⟨_, rfl⟩
  have hb : -4294967296 < t ∧ t ≤ 0 := by omega
  by_cases h0 : t < 0
  · by_cases h1 : 2147483647 < t + 4294967296
    · have e : w32 n = t + 4294967296 - 4294967296 := by omega
      refine fn_intro Tryz.func19 Tryz.ntmps19 rfl rfl rfl (fun w0 => ?_)
      try simp only [List.cons_append, List.nil_append, List.append_nil]
      refine rr ?_
      rw [htt]
      refine rr ?_
      exact en () trivial (hv := by rw [e]; rfl)
    · have e : w32 n = t + 4294967296 := by omega
      refine fn_intro Tryz.func19 Tryz.ntmps19 rfl rfl rfl (fun w0 => ?_)
      try simp only [List.cons_append, List.nil_append, List.append_nil]
      refine rr ?_
      rw [htt]
      refine rr ?_
      exact en () trivial (hv := by rw [e]; rfl)
  · have h1 : ¬ 2147483647 < t := by omega
    have e : w32 n = t := by omega
    refine fn_intro Tryz.func19 Tryz.ntmps19 rfl rfl rfl (fun w0 => ?_)
    try simp only [List.cons_append, List.nil_append, List.append_nil]
    refine rr ?_
    rw [htt]
    refine rr ?_
    exact en () trivial (hv := by rw [e]; rfl)
end Go.Proofs.YteddjcpaeoceeaaGreatDoor
namespace Go.Proofs.YteddjcpaeoceeaaGreatDoor
open Go Go.Sx Go.Sx.Chunk
set_option linter.unusedVariables false
set_option maxRecDepth 100000
set_option linter.unusedSimpArgs false
theorem w32_add (n j : Int) : w32 (n + 4294967296 * j) = w32 n := by
  rw [w32_eq, w32_eq]; omega
theorem w32_k (n : Int) : ∃ k, w32 n = n + 4294967296 * k := ⟨-((n + 2147483648) / 4294967296), by rw [w32_eq]; omega⟩
theorem mul_split (x y : Int) : w32 (x * y.tmod 65536 + (w32 (x * y.tdiv 65536)).tmod 65536 * 65536) = w32 (x * y) := by
  obtain ⟨k, hk⟩ := w32_k (x * y.tdiv 65536)
  obtain ⟨w, hw⟩ : ∃ w, w32 (x * y.tdiv 65536) = w := ⟨_, rfl⟩
  rw [hw] at hk ⊢
  have h1 := Int.mul_tdiv_add_tmod w 65536
  have h2 := Int.mul_tdiv_add_tmod y 65536
  obtain ⟨q, hq⟩ : ∃ q, w.tdiv 65536 = q := ⟨_, rfl⟩
  obtain ⟨t, ht⟩ : ∃ t, w.tmod 65536 = t := ⟨_, rfl⟩
  obtain ⟨l, hl⟩ : ∃ l, y.tmod 65536 = l := ⟨_, rfl⟩
  obtain ⟨g, hg⟩ : ∃ g, y.tdiv 65536 = g := ⟨_, rfl⟩
  rw [hq, ht] at h1
  rw [hl, hg] at h2
  rw [hg] at hk
  rw [ht, hl]
  have e : x * l + t * 65536 = x * y + 4294967296 * (k * 65536 - q) := by
    rw [← h2, Int.mul_add, show x * (65536 * g) = 65536 * (x * g) by rw [← Int.mul_assoc, Int.mul_comm x 65536, Int.mul_assoc]]
    omega
  rw [e, w32_add]
theorem mulr_in {x l : Int} (hx : -2147483648 ≤ x ∧ x ≤ 2147483647) (hl : -65536 < l ∧ l < 65536) : -140737488355328 ≤ x * l ∧ x * l ≤ 140737488355328 := by
  have h1 : (x * l).natAbs ≤ 2147483648 * 65536 := by
    rw [Int.natAbs_mul]; exact Nat.mul_le_mul (by omega) (by omega)
  omega
theorem tdv_in {y : Int} (hy : -2147483648 ≤ y ∧ y ≤ 2147483647) : (-65536 < y.tmod 65536 ∧ y.tmod 65536 < 65536) ∧ -65536 < y.tdiv 65536 ∧ y.tdiv 65536 < 65536 := by
  have h := tmod_c y (m := 65536) (by omega)
  have h2 := Int.mul_tdiv_add_tmod y 65536
  omega
theorem rmulC (a b : Int) : FnC (α := Unit) Tryz.prog 20 [.int .i64 a, .int .i64 b] [] [] (fun _ => .int .i64 (w32 (w32 a * w32 b))) (fun _ => []) (fun _ => True) := by
  have h1 := rwrapC a
  have h2 := rwrapC b
  have hx := w32_in a
  have hy := w32_in b
  generalize w32 a = x at *
  generalize w32 b = y at *
  obtain ⟨hm, hd⟩ := tdv_in hy
  have e := mul_split x y
  have p1 := mulr_in hx hm
  have p2 := mulr_in hx hd
  have h3 := rwrapC (x * y.tdiv 65536)
  have hw := w32_in (x * y.tdiv 65536)
  have h5 := (tdv_in hw).1
  have h4 := rwrapC (x * y.tmod 65536 + (w32 (x * y.tdiv 65536)).tmod 65536 * 65536)
  rw [e] at h4
  generalize w32 (x * y.tdiv 65536) = w at *
  have hi : IntKind.i64.wrap (y.tdiv 65536) = y.tdiv 65536 := i64_id (by omega)
  have hp : IntKind.i64.wrap (x * y.tdiv 65536) = x * y.tdiv 65536 := i64_id (by omega)
  refine fn_intro Tryz.func20 Tryz.ntmps20 rfl rfl rfl (fun w0 => ?_)
  try simp only [List.cons_append, List.nil_append, List.append_nil]
  refine rr ?_
  refine cl (h1) ?_
  intro _ _
  try simp only [List.cons_append, List.nil_append, List.append_nil]
  refine rr ?_
  refine cl (h2) ?_
  intro _ _
  try simp only [List.cons_append, List.nil_append, List.append_nil]
  refine rr ?_
  rw [hi, hp]
  refine cl (h3) ?_
  intro _ _
  try simp only [List.cons_append, List.nil_append, List.append_nil]
  refine rr ?_
  refine cl (h4) ?_
  intro _ _
  try simp only [List.cons_append, List.nil_append, List.append_nil]
  refine rr ?_
  exact en () trivial
theorem rtruthC (b : Bool) : FnC (α := Unit) Tryz.prog 21 [.bool b] [] [] (fun _ => .int .i64 (truQ b)) (fun _ => []) (fun _ => True) := by
  refine fn_intro Tryz.func21 Tryz.ntmps21 rfl rfl rfl (fun w0 => ?_)
  try simp only [List.cons_append, List.nil_append, List.append_nil]
  cases b
  · skip
    refine rr ?_
    exact en () trivial
  · skip
    refine rr ?_
    exact en () trivial
end Go.Proofs.YteddjcpaeoceeaaGreatDoor
namespace Go.Proofs.YteddjcpaeoceeaaGreatDoor.Cm
open Go Go.Sx Go.Sx.Chunk
set_option linter.unusedVariables false
set_option maxRecDepth 100000
set_option linter.unusedSimpArgs false
/-- A text's object, its image, its run. -/
theorem compT {T : List UInt8} {mem : Int} {code : List In} {data : Int} (hf : factB T mem code data = true) (s : ByteArray) (hs : s = Sc.bs T) (hl : T.length ≤ 1000000) : FnC Tryz.prog 14 [.string s] [] [spaceV] (fun x : Ax => .tuple #[o6G (compO T) x, .int .i64 0, .int .i64 0]) (fun x => o6H (compO T) x) (fun _ => True) := by
  subst hs
  obtain ⟨f1, f2, f3⟩ := fact_of hf
  have h1 := compileC (Sc.bs T) (by rw [Sc.bs_size]; exact hl)
  rw [Sc.txt_bs] at h1
  unfold compO at h1
  rw [f1] at h1
  simp only [Option.getD_some] at h1
  exact h1
theorem linkT {T : List UInt8} {mem : Int} {code : List In} {data : Int} (hf : factB T mem code data = true) (b : Nat) (x : Ax) : FnC Tryz.prog 15 [.slice (some ⟨b, 0, none⟩) 1 1, .int .i64 mem] (blk b (o6V (compO T) x) 36 :: o6H (compO T) x) [] (fun z : Option Addr × Nat => linkV (code, data, 0) z) (fun z => row z.1 z.2 140 5 code.length (insC code) :: blk b (o6V (compO T) x) 36 :: o6H (compO T) x) (fun _ => True) := by
  obtain ⟨f1, f2, f3⟩ := fact_of hf
  have h := linkOneC b (compO T) x mem (f2 x)
  rw [f3] at h
  exact h
end Go.Proofs.YteddjcpaeoceeaaGreatDoor.Cm
namespace Go.Proofs.YteddjcpaeoceeaaGreatDoor
open Go
def u16V (n : Int) : List Value := [.int .u16 n]
def i32V (n : Int) : List Value := [.int .i32 n]
def i64V (n : Int) : List Value := [.int .i64 n]
end Go.Proofs.YteddjcpaeoceeaaGreatDoor
namespace Go.Sx
open Go Chunk
set_option linter.unusedSimpArgs false
set_option linter.unusedVariables false
section
variable {H : Type} {enc : TypeId × Value → H}
/-- A row's way from its contract, where the row lays variables and the shape of the world is asked. -/
theorem handed_door {a : Assume} {C : Checked} {os : Os} {f : FuncId} {fn : Func} {s : ChangeSpec} {conds : List PathCond} {apart fresh handsOn again : Bool} {X : World → Array Value → Prop}
    (hX : ∀ (w w' : World) (args : Array Value), w.heap = w'.heap → X w args → X w' args)
    (own : ownKnob C.prog.godebug = none) (started : os.Started) (noInit : C.prog.inits.idxOf? f = none) (hfn : C.prog.funcs[f]? = some fn)
    (witness : ∃ (w : World) (tape : Tape) (i : Input), w.os = os ∧ (w.forCall tape i).Shaped C.prog ∧ i.vars = [] ∧ Input.okWide C.prog (w.forCall tape i) .any w.heap.size f i ∧
      ((s.pre enc C.prog fn conds apart (w.forCall tape i).memory i.args ∧ X (w.forCall tape i).memory i.args) ∧ sizedMet enc C.prog fn (OpenSpec.ofChange s) apart (w.forCall tape i).memory i.args) ∧ a.holds C.prog (lone (Frame.enter C.prog f i.args .normal) [] (w.forCall tape i)))
    (contract : ∀ (W : World) (base : Nat) (args : Array Value) (ds gs : List (DataW H)) (before : List MemPlace),
      (∀ (j : Nat) t v, fn.params[j]? = some t → args[j]? = some v → Value.okWide C.prog W .any base t v) →
      DataW.Whole enc C.prog fn.params.toList s.vars apart W args.toList ds gs before →
      conds.all (PathCond.test C.prog ⟨fn.params.toList, ds, s.plain.varTypes C.prog, gs⟩) = true →
      (DataW.weightsEach C.prog (fn.params.toList ++ s.plain.varTypes C.prog) (ds ++ gs)).all (· ≤ reachBytes) = true → X W args → W.ShapedOpen C.prog →
      a.holds C.prog (lone (Frame.enter C.prog f args .normal) [] W) →
      Calls C.prog f args W fun e W' => ∃ v, e = .returned v ∧ s.post enc C.prog fn apart fresh handsOn again W args v W') :
    ReturnsInHanded a C os f .any (fun w args => (s.pre enc C.prog fn conds apart w args ∧ X w args) ∧ sizedMet enc C.prog fn (OpenSpec.ofChange s) apart w args) (s.post enc C.prog fn apart fresh handsOn again) := by
  refine returnsInHanded_of_calls own started noInit witness ?_
  intro w tape i _ hsh _ hok hpre hholds
  obtain ⟨_, _, _, fn', hfn', _, _, _, _, hval⟩ := hok
  obtain rfl : fn' = fn := Option.some.inj (hfn'.symm.trans hfn)
  obtain ⟨⟨⟨ds, gs, before, hw, hc⟩, hx⟩, hz⟩ := hpre
  have hw' := DataW.Whole.of_heap (w' := w.forCall tape i) (by rfl) hw
  refine (contract (w.forCall tape i) w.heap.size i.args ds gs before hval hw' hc (hz.weights hw) (hX _ _ _ (by rfl) hx) hsh hholds).mono fun e W' ⟨v, he, hp⟩ => ?_
  subst he
  exact ChangeSpec.post_blind hp
end
/-- A variable of one whole number. -/
theorem int_of_shape {P : Program} {w : World} {g : Nat} {t : TypeId} {zero : Array Value} {k : IntKind} (h : w.ShapedOpen P) (hg : g < P.globals.size)
    (h0 : ((begin P (fun _ _ => 0) default).world.heap[g]?).bind Obj.row? = some (zero, t)) (hz : zero.size = 1)
    (hb : P.buildable t = true) (hc : P.cellTypes P.depth t = some [t]) (hu : P.underlying t = some (.int k)) : ∃ n, w.cell? ⟨g, 0, none⟩ = some (.int k n) := by
  obtain ⟨cs, hh, hs, hr⟩ := h.1 g zero t hg h0
  obtain ⟨ts, hts, _, hall⟩ := hr hb
  rw [hc] at hts
  cases hts
  have h1 : 0 < cs.size := by omega
  obtain ⟨u, hu', hok⟩ := hall 0 cs[0] (by simp [h1])
  have e : u = t := by simpa using hu'.symm
  subst e
  have hcell : w.cell? ⟨g, 0, none⟩ = some cs[0] := by simp [World.cell?, hh, h1]
  rw [hcell]
  unfold Cell.ok at hok
  rw [hu] at hok
  cases hv : cs[0] <;> rw [hv] at hok <;> first | (simp at hok; done) | skip
  rename_i k' n'
  simp only [] at hok
  refine ⟨n', ?_⟩
  have : k' = k := by simp_all
  rw [this]
theorem cell_lt {w : World} {a : Addr} {v : Value} (h : w.cell? a = some v) : a.block < w.heap.size := by
  unfold World.cell? at h
  split at h
  · rename_i hb; exact (Array.getElem?_eq_some_iff.1 hb).1
  · cases h
/-- One cell of a variable. -/
theorem seen_cell {w : World} {g : Nat} {v : Value} (h : w.cell? ⟨g, 0, none⟩ = some v) : SeenC w (rng (some ⟨g, 0, none⟩) [v]) :=
  ⟨rfl, fun j u hj => by
    cases j with
    | zero =>
      simp only [List.getElem?_cons_zero, Option.some.injEq] at hj
      subst hj
      exact ⟨_, rfl, by rw [addr_add, Nat.zero_add]; exact h⟩
    | succ j => simp at hj, fun k hk => by
    obtain ⟨_, a, ha, rfl⟩ := hk
    cases ha
    exact cell_lt h⟩
/-- A variable's cells, by its name. -/
theorem var_cells {P : Program} {w : World} {n : String} {g : Nat} {cs : Array Value} (hg : P.globalNamed n = some g) (h : w.var? P n = some cs) : ∃ t z, w.heap[g]? = some (.cells cs t z) := by
  unfold World.var? at h
  rw [hg] at h
  simp only [Option.bind_some] at h
  split at h
  · rename_i c t z hc
    simp only [Option.some.injEq] at h
    subst h
    exact ⟨_, _, hc⟩
  · cases h
end Go.Sx
namespace Go.Sx
open Go Chunk
open Go.ChangeShapes Go.WideShapes Go.RowKit
set_option linter.unusedSimpArgs false
set_option linter.unusedVariables false
section
variable {H : Type} {enc : TypeId × Value → H} {P : Program} {w : World} {base b0 : Nat} {spare : Nat → Bool} {held : Bool} {r : Reach}
/-- None of it weighs too much. -/
def Light (P : Program) (t : TypeId) (d : DataW H) : Prop := ∀ n ∈ d.weights P t, n ≤ reachBytes
def DecW (enc : TypeId × Value → H) (P : Program) (w : World) (base : Nat) (spare : Nat → Bool) (held : Bool) (t : TypeId) {α : Type} (cells : α → List Value) (ok : α → Prop) (seen : α → List Chunk) : Prop :=
  ∀ (fuel : Nat) (cs : List Value) (x : DataW H × List MemPlace), DataW.trod enc P w base spare held fuel t cs = some x → Light P t x.1 → ∃ a : α, cs = cells a ∧ ok a ∧ Seen w (seen a)
theorem decW_of {t : TypeId} {α : Type} {cells : α → List Value} {ok : α → Prop} {seen : α → List Chunk} (h : Dec enc P w base spare held t cells ok seen) : DecW enc P w base spare held t cells ok seen := fun fuel cs x hx _ => h fuel cs x hx
theorem decW_string {t : TypeId} (ht : P.underlying t = some .string) : DecW enc P w base spare held t (α := ByteArray) (fun s => [.string s]) (fun s => s.size ≤ maxLen) (fun _ => []) := decW_of (dec_string ht)
theorem DecW.iso {t : TypeId} {α β : Type} {c1 : α → List Value} {ok1 : α → Prop} {s1 : α → List Chunk} {c2 : β → List Value} {ok2 : β → Prop} {s2 : β → List Chunk} (g : α → β) (hc : ∀ a, c1 a = c2 (g a)) (ho : ∀ a, ok1 a → ok2 (g a)) (hs : ∀ a, s1 a = s2 (g a)) (h : DecW enc P w base spare held t c1 ok1 s1) : DecW enc P w base spare held t c2 ok2 s2 := fun fuel cs x hx hl => by
  obtain ⟨a, h1, h2, h3⟩ := h fuel cs x hx hl
  exact ⟨g a, by rw [h1, hc], ho a h2, by rw [← hs]; exact h3⟩
theorem weightsAll_mem {e : TypeId} : ∀ {l : List (DataW H)} {d : DataW H}, d ∈ l → ∀ n ∈ d.weights P e, n ∈ DataW.weightsAll P e l
  | [], d, h, n, hn => by simp at h
  | y :: l, d, h, n, hn => by
    simp only [DataW.weightsAll, List.mem_append]
    rcases List.mem_cons.1 h with rfl | h
    · exact .inl hn
    · exact .inr (weightsAll_mem h n hn)
theorem weightsEach_mem {fs : List Field} : ∀ {l : List (DataW H)} {i : Nat} {f : Field} {d : DataW H}, fs[i]? = some f → l[i]? = some d → ∀ n ∈ d.weights P f.type, n ∈ DataW.weightsEach P (fs.map (·.type)) l := fun {l i f d} hf hd n hn =>
  DataW.weights_mem_each (j := i) (t := f.type) (by simp [hf]) hd n hn
/-- A slice, by its elements. -/
theorem decW_slice {t e : TypeId} {α : Type} {cells : α → List Value} {ok : α → Prop} {seen : α → List Chunk} {sz bz : Nat} (ht : P.underlying t = some (.slice e)) (hsz : P.cellsOf e = sz) (hbz : P.bytesOf e = bz) (hpos : 0 < sz) (hc : ∀ a, (cells a).length = sz) (hd : DecW enc P w base spare held e cells ok seen) :
    DecW enc P w base spare held t (fun x : Option Addr × Nat × List α => [.slice x.1 x.2.2.length x.2.1]) (fun x => (x.2.2.length ≤ x.2.1 ∧ x.2.1 ≤ maxLen ∧ x.2.2.length * bz ≤ reachBytes) ∧ ∀ a ∈ x.2.2, ok a) (fun x => rng x.1 (x.2.2.flatMap cells) :: x.2.2.flatMap seen) := fun fuel cs x h hlight => by
  have hlt := DataW.trod_lt fuel t cs x h
  rcases DataW.trod_slice ht h with ⟨rfl, _⟩ | ⟨a, len, cap, elems, rest, n, _, rfl, rfl, hb, hl, hm, hlen, hel, hsp, hns⟩
  · exact ⟨(none, 0, []), rfl, ⟨⟨Nat.le_refl _, by unfold maxLen; exact Nat.zero_le _, by simp⟩, by simp⟩, ⟨rfl, fun j v hj => by simp at hj, fun k hk => absurd rfl hk.1⟩, trivial⟩
  · have hw0 : ∀ n ∈ DataW.weights P t (.slice (elems.map (·.1)) (rest.map (·.1)) : DataW H), n ≤ reachBytes := hlight
    have hw1 : (elems.length + rest.length) * bz ≤ reachBytes := hw0 _ (by simp [DataW.weights, ht, hbz])
    have each : ∀ i, i < len → ∃ b : α, (∀ j v, (cells b)[j]? = some v → w.cell? (a.add (i * sz + j)) = some v) ∧ ok b ∧ Seen w (seen b) := by
      intro i hi
      have h1 := hel i hi
      rw [hsz, List.getElem?_eq_getElem (by omega), Option.bind_eq_some_iff] at h1
      obtain ⟨cs', hcs, hy⟩ := h1
      obtain ⟨b, rfl, hok, hseen⟩ := hd n cs' _ hy (fun n hn => hw0 n (by
        simp only [DataW.weights, ht, List.mem_cons, List.mem_append]
        exact .inr (.inl (weightsAll_mem (List.mem_map.2 ⟨elems[i], List.getElem_mem _, rfl⟩) n hn))))
      refine ⟨b, fun j v hj => ?_, hok, hseen⟩
      obtain ⟨_, h2, h3⟩ := World.cells?_some hcs
      have hj' := (List.getElem?_eq_some_iff.1 hj).1
      have := h3 j (by rw [hc] at hj'; omega)
      rw [add_add] at this
      rw [this, hj]
    have key : ∀ m, m ≤ len → ∃ l : List α, l.length = m ∧ (∀ b ∈ l, ok b ∧ Seen w (seen b)) ∧ ∀ j v, (l.flatMap cells)[j]? = some v → w.cell? (a.add j) = some v := by
      intro m
      induction m with
      | zero => exact fun _ => ⟨[], rfl, by simp, by simp⟩
      | succ m ih =>
        intro hm'
        obtain ⟨l, hl1, hl2, hl3⟩ := ih (by omega)
        obtain ⟨b, hb1, hb2, hb3⟩ := each m (by omega)
        refine ⟨l ++ [b], by simp [hl1], ?_, ?_⟩
        · intro c hc'
          rcases List.mem_append.1 hc' with hc' | hc'
          · exact hl2 c hc'
          · simp only [List.mem_singleton] at hc'
            subst hc'
            exact ⟨hb2, hb3⟩
        · intro j v hj
          rw [List.flatMap_append, List.flatMap_cons, List.flatMap_nil, List.append_nil] at hj
          have hfl := flat_len hc l
          rw [hl1] at hfl
          by_cases hjl : j < m * sz
          · rw [List.getElem?_append_left (by omega)] at hj
            exact hl3 j v hj
          · rw [List.getElem?_append_right (by omega), hfl] at hj
            have := hb1 (j - m * sz) v hj
            rwa [show m * sz + (j - m * sz) = j by omega] at this
    obtain ⟨l, hl1, hl2, hl3⟩ := key len (Nat.le_refl _)
    refine ⟨(some a, cap, l), (by show [Value.slice (some a) len cap] = [.slice (some a) l.length cap]; rw [hl1]), ⟨⟨by dsimp only; omega, hm, ?_⟩, fun b hb' => (hl2 b hb').1⟩, ⟨rfl, fun j v hj => ⟨a, rfl, hl3 j v hj⟩, fun k hk => ?_⟩, Seen.flat (fun b hb' => (hl2 b hb').2)⟩
    · dsimp only
      rw [hl1, ← hlen]
      exact Nat.le_trans (Nat.mul_le_mul_right _ (Nat.le_add_right _ _)) hw1
    · obtain ⟨hne, a', ha, rfl⟩ := hk
      cases ha
      have hfl := flat_len hc l
      have hl0 : 0 < l.length := by
        rcases Nat.eq_zero_or_pos l.length with h0 | h0
        · rw [List.length_eq_zero_iff.1 h0] at hne; simp at hne
        · exact h0
      have := hlt (.cell a.block (a.off + 0)) (by
        refine List.mem_append.2 (.inl ?_)
        unfold MemPlace.row
        refine List.mem_map.2 ⟨0, ?_, rfl⟩
        rw [List.mem_range, hsz]
        exact Nat.mul_pos (by omega) hpos)
      exact this
def DecFW (enc : TypeId × Value → H) (P : Program) (w : World) (base : Nat) (spare : Nat → Bool) (held : Bool) (fs : List Field) (o sz : Nat) {α : Type} (cells : α → List Value) (ok : α → Prop) (seen : α → List Chunk) : Prop :=
  ∀ (n : Nat) (cs : List Value), (∀ f ∈ fs, ∃ y, DataW.trod enc P w base spare held n f.type ((cs.drop f.offset).take (P.cellsOf f.type)) = some y ∧ Light P f.type y.1) → ∃ a : α, (cs.drop o).take sz = cells a ∧ ok a ∧ Seen w (seen a)
theorem decFW_nil {o : Nat} : DecFW enc P w base spare held [] o 0 (α := Unit) (fun _ => []) (fun _ => True) (fun _ => []) := fun n cs _ => ⟨(), by simp, trivial, trivial⟩
theorem decFW_cons {f : Field} {fs : List Field} {o k sz : Nat} {α β : Type} {c1 : α → List Value} {ok1 : α → Prop} {s1 : α → List Chunk} {c2 : β → List Value} {ok2 : β → Prop} {s2 : β → List Chunk} (ho : f.offset = o) (hk : P.cellsOf f.type = k)
    (h1 : DecW enc P w base spare held f.type c1 ok1 s1) (h2 : DecFW enc P w base spare held fs (o + k) sz c2 ok2 s2) : DecFW enc P w base spare held (f :: fs) o (k + sz) (fun x : α × β => c1 x.1 ++ c2 x.2) (fun x => ok1 x.1 ∧ ok2 x.2) (fun x => s1 x.1 ++ s2 x.2) := fun n cs h => by
  obtain ⟨y, hy, hyl⟩ := h f (by simp)
  rw [ho, hk] at hy
  obtain ⟨a, ha, hoa, hsa⟩ := h1 n _ _ hy hyl
  obtain ⟨b, hb, hob, hsb⟩ := h2 n cs (fun g hg => h g (by simp [hg]))
  refine ⟨(a, b), ?_, ⟨hoa, hob⟩, hsa.append hsb⟩
  show _ = c1 a ++ c2 b
  rw [← ha, ← hb, List.take_add, List.drop_drop]
theorem decW_struct {t : TypeId} {fs : Array Field} {sz : Nat} {α : Type} {cells : α → List Value} {ok : α → Prop} {seen : α → List Chunk} (ht : P.underlying t = some (.struct fs)) (hsz : P.cellsOf t = sz) (h : DecFW enc P w base spare held fs.toList 0 sz cells ok seen) : DecW enc P w base spare held t cells ok seen := fun fuel cs x hx hlight => by
  obtain ⟨xs, n, _, rfl, hl, hlen, hf⟩ := DataW.trod_struct ht hx
  have hw0 : ∀ n ∈ DataW.weights P t (.agg (xs.map (·.1)) : DataW H), n ≤ reachBytes := hlight
  obtain ⟨a, ha, h1, h2⟩ := h n cs (fun f hf' => by
    obtain ⟨i, hi⟩ := List.mem_iff_getElem?.1 hf'
    have hi' : fs[i]? = some f := by simpa using hi
    have := hf i f hi'
    have hlt : i < xs.length := by rw [hlen]; exact (Array.getElem?_eq_some_iff.1 hi').1
    refine ⟨xs[i], by rw [this]; simp [hlt], fun n hn => hw0 n ?_⟩
    simp only [DataW.weights, ht]
    exact weightsEach_mem (i := i) hi (by simp [hlt]) n hn)
  refine ⟨a, ?_, h1, h2⟩
  rw [List.drop_zero, List.take_of_length_le (by omega)] at ha
  exact ha
/-- The weights of the j-th argument. -/
theorem light_arg {ts : List TypeId} {ds : List (DataW H)} (h : (DataW.weightsEach P ts ds).all (· ≤ reachBytes) = true) {j : Nat} {t : TypeId} {d : DataW H} (ht : ts[j]? = some t) (hd : ds[j]? = some d) : Light P t d := fun n hn => by
  have := List.all_eq_true.1 h n (DataW.weights_mem_each ht hd n hn)
  simpa using this
/-- An argument that is a slice. -/
theorem arg_sliceW {t e : TypeId} {α : Type} {cells : α → List Value} {ok : α → Prop} {seen : α → List Chunk} {sz bz : Nat} {v : Value} {d : DataW H} {ps : List MemPlace} (ht : P.underlying t = some (.slice e)) (hsz : P.cellsOf e = sz) (hbz : P.bytesOf e = bz) (hpos : 0 < sz) (hc : ∀ a, (cells a).length = sz) (hd : DecW enc P w base spare held e cells ok seen)
    (hv : Value.okWide P w r b0 t v) (h : DataW.Trod enc P w base spare held t v d ps) (hl : Light P t d) :
    ∃ (ao : Option Addr) (cap : Nat) (l : List α), v = .slice ao l.length cap ∧ l.length ≤ cap ∧ cap ≤ maxLen ∧ l.length * bz ≤ reachBytes ∧ (∀ a ∈ l, ok a) ∧ Seen w (rng ao (l.flatMap cells) :: l.flatMap seen) := by
  obtain ⟨a0, len, cap, rfl⟩ := okWide_slice ht hv
  obtain ⟨fuel, hf⟩ := h
  obtain ⟨⟨ao, cap', l⟩, hcs, ⟨⟨h1, h2, h3⟩, h4⟩, h5⟩ := decW_slice ht hsz hbz hpos hc hd fuel _ _ hf hl
  simp [Value.cells] at hcs
  obtain ⟨rfl, rfl, rfl⟩ := hcs
  exact ⟨a0, cap, l, rfl, h1, h2, h3, h4, h5⟩
/-- An argument that is a struct. -/
theorem arg_structW {t : TypeId} {fs : Array Field} {α : Type} {cells : α → List Value} {ok : α → Prop} {seen : α → List Chunk} {v : Value} {d : DataW H} {ps : List MemPlace} (ht : P.underlying t = some (.struct fs)) (hd : DecW enc P w base spare held t cells ok seen)
    (hv : Value.okWide P w r b0 t v) (h : DataW.Trod enc P w base spare held t v d ps) (hl : Light P t d) :
    ∃ a : α, v = .agg (cells a).toArray ∧ ok a ∧ Seen w (seen a) := by
  obtain ⟨cs, rfl, _⟩ := okWide_struct ht hv
  obtain ⟨fuel, hf⟩ := h
  obtain ⟨a, hcs, h1, h2⟩ := hd fuel _ _ hf hl
  refine ⟨a, ?_, h1, h2⟩
  rw [← hcs]
  simp [Value.cells]
theorem seen_see {cs : List Chunk} (h : Seen w cs) : Seen w [seeL cs] :=
  ⟨⟨rfl, fun c hc => (h.mem c hc).2.1, fun k ⟨c, hc, hk⟩ => (h.mem c hc).2.2 k hk⟩, trivial⟩
end
end Go.Sx
namespace Go.Proofs.YteddjcpaeoceeaaGreatDoor
open Go Go.Sx Go.Sx.Chunk
set_option linter.unusedVariables false
set_option linter.unusedSimpArgs false
set_option maxRecDepth 100000
def laidL : List (String × DataW Unit) := [("unicode.White_Space", Rows.laid_unicode_White_Space), ("strings.asciiSpace", Rows.laid_strings_asciiSpace)]
theorem spc_eq : (Rows.laid_strings_asciiSpace : DataW Unit) = Lib.tabData .u8 Lib.asciiSpaceTab := by kernel_rfl
theorem glb_seen {w : World} {n : String} {g : Nat} {k : IntKind} {zs : List Int} (hg : Tryz.prog.globalNamed n = some g) (h : Lib.TabIs Tryz.prog w n k zs) : SeenC w (glb g (zs.map fun z => Value.int k z)) := by
  obtain ⟨t, z, hb⟩ := var_cells hg h
  exact ⟨rfl, ⟨t, z, hb⟩, fun j hj => by
    have : j = g := hj
    rw [this]
    exact (Array.getElem?_eq_some_iff.1 hb).1⟩
theorem laid_plain {W : World} (h : laidMetH Tryz.prog laidL W) : laidMet Tryz.prog laidL W := by
  rw [MakeChecks.laidMetH_plain _ _ _ (by kernel_rfl)] at h
  exact h
theorem va_seen {W : World} (hL : laidMetH Tryz.prog laidL W) (hsh : W.ShapedOpen Tryz.prog) : ∃ m ev ev2 : Unit, True ∧ True ∧ Seen W [Cm.spaceV] := by
  have h0 := laid_plain hL
  have h7 := laidMet.tail h0
  rw [spc_eq] at h7
  have t0 := Lib.tabIs_of_head (g := 1) (t := 213) (e := 5) (n := 256) (by kernel_rfl) (by kernel_rfl) (by kernel_rfl) (by kernel_rfl) (by kernel_rfl) (by kernel_rfl) h7
  exact ⟨(), (), (), trivial, trivial, glb_seen (by kernel_rfl) t0, trivial⟩
end Go.Proofs.YteddjcpaeoceeaaGreatDoor

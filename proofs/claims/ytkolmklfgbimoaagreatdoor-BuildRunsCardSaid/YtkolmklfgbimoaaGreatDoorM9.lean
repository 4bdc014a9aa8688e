/- Texts of the proof, in their order: Pi5, Pi6, Pi7, Pi8, Pi9, Pia, SxO, Ag1, Bd5, Nv1, Bd6, SxY, Bd7, SxT, Dr2. -/
import Derived.Test.YtkolmklfgbimoaaGreatDoorM8
import Derived.Test.YtkolmklfgbimoaaGreatDoorM2
import Derived.SizedLaws
import Derived.Test.YtkolmklfgbimoaaGreatDoorM5
import Derived.HandedShaped
import Derived.Test.YtkolmklfgbimoaaGreatDoorRows
import Derived.Test.YtkolmklfgbimoaaGreatDoorM3
import Derived.Stop.LaidErr
import Derived.Lib.LaidTab
import Derived.MakeChecks
import Derived.LaidLaws
set_option linter.unusedVariables false
set_option linter.unusedSimpArgs false
set_option maxHeartbeats 16000000
set_option maxRecDepth 100000
namespace Go.Proofs.YtkolmklfgbimoaaGreatDoor
open Go Go.Sx Go.Sx.Chunk
section
variable {IA : Addr} {L : List Int} {k : Kq}
theorem actPC (c : Nat) (m : PS) (x : Aq) {st : Int} (hm : OkP k st m) (hx : OkPn IA L m x) : FnC Tryz.prog 110 [qP c] (mpH c k m x) [inB IA L] (fun _ => .int .i64 (actP m).1) (fun y : Aq => mpH c k (actP m).2 y) (fun y => OkPn IA L (actP m).2 y) := by
 have hlen : (pmC k m x).length = 85 := rfl
 have hkn := hm.kn
 have hml := hm.ml
 unfold actP actL
 dsimp only
 by_cases hoff : m.k.full = false ∨ m.k.trap ≠ 0
 ·rw [if_pos hoff]
  unfold mpH qP
  rcases hoff with h | h
  ·skip
   refine fn_intro Tryz.func110 Tryz.ntmps110 rfl rfl rfl (fun w0 => ?_)
   refine rrs ?_
   intro b1 _
   refine rr ?_
   exact en x (hx.same rfl rfl rfl)
  ·cases hfu : m.k.full with
   | false =>
    refine fn_intro Tryz.func110 Tryz.ntmps110 rfl rfl rfl (fun w0 => ?_)
    refine rrs ?_
    intro b1 _
    refine rr ?_
    exact en x (hx.same rfl rfl rfl)
   | true =>
    refine fn_intro Tryz.func110 Tryz.ntmps110 rfl rfl rfl (fun w0 => ?_)
    refine rrs ?_
    intro b1 _
    refine rr ?_
    exact en x (hx.same rfl rfl rfl)
 rw [if_neg hoff]
 have hfu : m.k.full = true := by cases h : m.k.full with
  | true => rfl
  | false => exact absurd (.inl h) hoff
 have htr : m.k.trap = 0 := Classical.not_not.1 (fun h => hoff (.inr h))
 have hg := (hm.k.good hfu htr).1
 have hr := rgI hg
 by_cases h12 : m.k.i.op = 12
 ·rw [if_pos h12]
  by_cases hin : 0 ≤ m.k.whr ∧ m.k.whr < k.n
  ·obtain ⟨v, hv⟩ := some_at (l := m.mem) (k := m.k.whr.toNat) (by omega)
   have hl : ldP m.mem m.k.whr = some v := by unfold ldP; rw [if_neg (by omega), hv]
   rw [hl]
   have h1 := loadOk k.mm k.g k.n m.mem m.k.whr v (by omega) hml hin.1 hv
   unfold mpH qP memH mP at *
   dsimp only
   refine fn_intro Tryz.func110 Tryz.ntmps110 rfl rfl rfl (fun w0 => ?_)
   refine rrs ?_
   intro b1 _
   refine rr ?_
   refine dx [0, 1, 2, 3, 4, 5, 6, 7, 8, 9, 10, 11] [3, 5] [] ?_
   refine rr ?_
   refine cle (h1) ?_
   intro _ _
   refine rrs ?_
   exact en x (hx.same rfl rfl rfl)
  ·have hl : ldP m.mem m.k.whr = none := by
    unfold ldP
    by_cases h : m.k.whr < 0
    ·rw [if_pos h]
    ·rw [if_neg h]; exact List.getElem?_eq_none (by omega)
   rw [hl]
   have h1 := loadBad k.mm k.g k.n m.mem m.k.whr (by omega) hin
   unfold mpH qP memH mP at *
   dsimp only
   refine fn_intro Tryz.func110 Tryz.ntmps110 rfl rfl rfl (fun w0 => ?_)
   refine rrs ?_
   intro b1 _
   refine rr ?_
   refine dx [0, 1, 2, 3, 4, 5, 6, 7, 8, 9, 10, 11] [3, 5] [] ?_
   refine rr ?_
   refine cle (h1) ?_
   intro _ _
   refine rrs ?_
   exact en x (hx.same rfl rfl rfl)
 rw [if_neg h12]
 by_cases h13 : m.k.i.op = 13
 ·rw [if_pos h13]
  by_cases hin : 0 ≤ m.k.whr ∧ m.k.whr < k.n
  ·rw [if_neg (by omega)]
   have h1 := storeOk k.mm k.g k.n m.mem m.k.whr m.k.sto (by omega) hml hin
   unfold mpH qP memH mP at *
   dsimp only
   refine fn_intro Tryz.func110 Tryz.ntmps110 rfl rfl rfl (fun w0 => ?_)
   refine rrs ?_
   intro b1 _
   refine rr ?_
   refine dx [0, 1, 2, 3, 4, 5, 6, 7, 8, 9] [3, 5, 7] [] ?_
   refine rr ?_
   refine cle (h1) ?_
   intro _ _
   refine rrs ?_
   exact en x (hx.same rfl rfl rfl)
  ·rw [if_pos (by omega)]
   have h1 := storeBad k.mm k.g k.n m.mem m.k.whr m.k.sto (by omega) hin
   unfold mpH qP memH mP at *
   dsimp only
   refine fn_intro Tryz.func110 Tryz.ntmps110 rfl rfl rfl (fun w0 => ?_)
   refine rrs ?_
   intro b1 _
   refine rr ?_
   refine dx [0, 1, 2, 3, 4, 5, 6, 7, 8, 9] [3, 5, 7] [] ?_
   refine rr ?_
   refine cle (h1) ?_
   intro _ _
   refine rrs ?_
   exact en x (hx.same rfl rfl rfl)
 rw [if_neg h13]
 by_cases h20 : m.k.i.op = 20
 ·rw [if_pos h20]
  have h1 := sysPC (IA := IA) (L := L) (k := k) c m.k { m with k := lt0 } x (hr.sys h20) hm.ol (hx.same rfl rfl rfl)
  generalize sysP m.k { m with k := lt0 } = r at *
  obtain ⟨r1, r2⟩ := r
  unfold mpH qP at *
  dsimp only at h1 ⊢
  refine fn_intro Tryz.func110 Tryz.ntmps110 rfl rfl rfl (fun w0 => ?_)
  refine rrs ?_
  intro b1 _
  refine rr ?_
  refine cl (h1) ?_
  intro y hy
  refine rrs ?_
  exact en y (hy.same rfl rfl rfl)
 rw [if_neg h20]
 unfold mpH qP at *
 refine fn_intro Tryz.func110 Tryz.ntmps110 rfl rfl rfl (fun w0 => ?_)
 refine rrs ?_
 intro b1 _
 refine rr ?_
 exact en x (hx.same rfl rfl rfl)
end
section
variable {k : Kq}
theorem regs_in {l : List Int} (h : ∀ r ∈ l, inK32 r) (n : Nat) : inK32 (l.getD n 0) := by
 rw [List.getD_eq_getElem?_getD]
 cases hg : l[n]? with
 | none => exact ⟨by decide, by decide⟩
 | some r => exact h r (List.mem_of_getElem? hg)
theorem early_in {n : Int} {ah : Lt} {l : List Int} (ha : OkL ah) (h : ∀ r ∈ l, inK32 r) : inK32 (earlyP n ah l) := by
 unfold earlyP
 split
 ·exact ha.val
 ·exact regs_in h _
theorem reckPC (c : Nat) (ah : Lt) (m : PS) (x : Aq) {st : Int} (hm : OkP k st m) (hah : OkL ah) : FnC (α := Unit) Tryz.prog 111 [qP c, ltG ah] [blk c (pmC k m x) 136] [] (fun _ => .tuple #[]) (fun _ => [blk c (pmC k (reckP ah m) x) 136]) (fun _ => True) := by
 have hlen : (pmC k m x).length = 85 := rfl
 unfold reckP reckL
 by_cases hon : m.r.full = true ∧ m.r.trap = 0
 case neg =>
  rw [if_neg hon]
  unfold qP ltG
  cases hfu : m.r.full with
  | false =>
   refine fn_intro Tryz.func111 Tryz.ntmps111 rfl rfl rfl (fun w0 => ?_)
   refine rrs ?_
   intro b1 _
   refine rr ?_
   intro b2 _
   refine rr ?_
   exact en () trivial
  | true =>
   have htr : ¬ m.r.trap = 0 := fun h => hon ⟨hfu, h⟩
   refine fn_intro Tryz.func111 Tryz.ntmps111 rfl rfl rfl (fun w0 => ?_)
   refine rrs ?_
   intro b1 _
   refine rr ?_
   intro b2 _
   refine rr ?_
   exact en () trivial
 rw [if_pos hon]
 obtain ⟨hfu, htr⟩ := hon
 obtain ⟨hg, hp0, hp1⟩ := hm.r.good hfu htr
 have hr := rgI hg
 have himm := hr.imm
 have ha := earlyC m.r.i.a ah m.regs hr.a.1 hr.a.2 hm.rl
 have hb := earlyC m.r.i.b ah m.regs hr.b.1 hr.b.2 hm.rl
 have hc := earlyC m.r.i.c ah m.regs hr.c.1 hr.c.2 hm.rl
 have h4 := earlyC 4 ah m.regs (by decide) (by decide) hm.rl
 have hib := early_in (n := m.r.i.b) hah hm.rb
 unfold inK32 at hib
 have hwr := writesEC m.r.i
 have hrk := fun b c => reckonC m.r.i b c hg (by omega)
 dsimp only
 generalize earlyP m.r.i.a ah m.regs = va at *
 generalize earlyP m.r.i.b ah m.regs = vb at *
 generalize earlyP m.r.i.c ah m.regs = vc at *
 generalize earlyP 4 ah m.regs = v4 at *
 generalize writesF m.r.i = vw at *
 have hadd := addC vb m.r.i.imm (by omega)
 have hrk := hrk vb vc
 generalize reckonQ m.r.i vb vc = q at *
 obtain ⟨q1, q2, q3⟩ := q
 unfold reckonV at hrk
 unfold ltG at ha hb hc h4
 unfold qP ltG
 dsimp only at *
 refine fn_intro Tryz.func111 Tryz.ntmps111 rfl rfl rfl (fun w0 => ?_)
 refine rrs ?_
 intro b1 _
 refine rr ?_
 intro b2 _
 refine rr ?_
 refine dx [0, 1, 2, 3, 4, 5, 6, 7, 9, 10, 11, 12, 13, 14, 15, 16, 18, 19, 20, 21, 22, 23, 24, 25, 8, 17, 26, 27, 28, 29] [2, 3, 7, 11, 12, 16, 20, 21, 25] [] ?_
 refine rr ?_
 refine cld (ha) ?_
 intro _ _
 refine rrs ?_
 refine cld (hb) ?_
 intro _ _
 refine rrs ?_
 refine cld (hc) ?_
 intro _ _
 refine rrs ?_
 refine cl (hwr) ?_
 intro _ _
 refine rrs ?_
 refine cl (hadd) ?_
 intro _ _
 refine rrs ?_
 by_cases h14 : m.r.i.op = 14
 ·rw [if_pos h14]
  have hcase : (va < 0) ∨ (¬ va < 0 ∧ m.r.i.imm ≤ va) ∨ (¬ va < 0 ∧ ¬ m.r.i.imm ≤ va) := by omega
  rcases hcase with hv | ⟨hv, hv2⟩ | ⟨hv, hv2⟩
  ·rw [if_pos (.inl hv)]
   by_cases hb0 : m.r.i.b = 0
   ·rw [if_pos hb0]
    refine rr ?_
    exact en () trivial
   ·rw [if_neg hb0]
    refine rr ?_
    exact en () trivial
  ·rw [if_pos (.inr hv2)]
   by_cases hb0 : m.r.i.b = 0
   ·rw [if_pos hb0]
    refine rr ?_
    exact en () trivial
   ·rw [if_neg hb0]
    refine rr ?_
    exact en () trivial
  ·rw [if_neg (by omega)]
   refine rr ?_
   exact en () trivial
 rw [if_neg h14]
 by_cases h18 : m.r.i.op = 18
 ·rw [if_pos h18]
  refine rr ?_
  exact en () trivial
 rw [if_neg h18]
 by_cases h20 : m.r.i.op = 20
 ·rw [if_pos h20]
  refine rr ?_
  refine dx [0, 1, 2, 3, 4, 5, 6, 7] [0, 4] [] ?_
  refine rr ?_
  refine cld (h4) ?_
  intro _ _
  refine rrs ?_
  exact en () trivial
 rw [if_neg h20]
 refine rr ?_
 refine cl (hrk) ?_
 intro _ _
 refine rrs ?_
 exact en () trivial
end
section
variable {k : Kq}
theorem now_in {n : Int} {m : PS} {st : Int} (h : OkP k st m) : inK32 (nowP n m) := by
 unfold nowP
 split
 ·exact early_in h.k (mem_set h.rb h.a.val)
 ·exact early_in h.k h.rb
theorem decPC (c : Nat) (m : PS) (x : Aq) {st : Int} (hs : 0 ≤ st ∧ st ≤ 100000000) (hm : OkP k st m) : FnC (α := Unit) Tryz.prog 113 [qP c] [blk c (pmC k m x) 136] [] (fun _ => .int .i64 (decP m).1) (fun _ => [blk c (pmC k (decP m).2 x) 136]) (fun _ => True) := by
 have hlen : (pmC k m x).length = 85 := rfl
 have hpc := hm.pc
 unfold decP decL
 dsimp only
 by_cases hoff : m.f.full = false ∨ m.f.trap ≠ 0
 ·rw [if_pos hoff]
  unfold qP
  cases hfu : m.f.full with
  | false =>
   refine fn_intro Tryz.func113 Tryz.ntmps113 rfl rfl rfl (fun w0 => ?_)
   refine rrs ?_
   intro b1 _
   refine rr ?_
   exact en () trivial
  | true =>
   have htr : ¬ m.f.trap = 0 := by
    rcases hoff with h | h
    ·rw [hfu] at h; cases h
    ·exact h
   refine fn_intro Tryz.func113 Tryz.ntmps113 rfl rfl rfl (fun w0 => ?_)
   refine rrs ?_
   intro b1 _
   refine rr ?_
   exact en () trivial
 rw [if_neg hoff]
 have hfu : m.f.full = true := by cases h : m.f.full with
  | true => rfl
  | false => exact absurd (.inl h) hoff
 have htr : m.f.trap = 0 := Classical.not_not.1 (fun h => hoff (.inr h))
 obtain ⟨hg, hp0, hp1⟩ := hm.f.good hfu htr
 have hr := rgI hg
 have himm := hr.imm
 have ha := nowC (k := k) c m.f.i.a { m with f := lt0, r := m.f } x hr.a.1 hr.a.2 hm.rl
 have hb := nowC (k := k) c m.f.i.b { m with f := lt0, r := m.f } x hr.b.1 hr.b.2 hm.rl
 generalize nowP m.f.i.a { m with f := lt0, r := m.f } = va at *
 generalize nowP m.f.i.b { m with f := lt0, r := m.f } = vb at *
 unfold qP at *
 by_cases h15 : m.f.i.op = 15
 ·rw [if_pos (.inl h15)]
  by_cases hab : va = vb
  ·rw [if_pos (by simp [hab, h15])]
   have hd : ((va == vb) == (m.f.i.op == 15)) = true := by simp [hab, h15]
   refine fn_intro Tryz.func113 Tryz.ntmps113 rfl rfl rfl (fun w0 => ?_)
   refine rrs ?_
   intro b1 _
   refine rr ?_
   refine dx [0, 1, 2, 3, 5, 6, 7, 8, 11, 12, 13, 14, 4, 9, 10, 15] [3, 8, 13] [] ?_
   refine rr ?_
   refine cld (ha) ?_
   intro _ _
   refine rrs ?_
   refine cld (hb) ?_
   intro _ _
   refine rrs ?_
   exact en () trivial
  ·rw [if_neg (by simp [hab, h15])]
   have hd : ((va == vb) == (m.f.i.op == 15)) = false := by simp [hab, h15]
   refine fn_intro Tryz.func113 Tryz.ntmps113 rfl rfl rfl (fun w0 => ?_)
   refine rrs ?_
   intro b1 _
   refine rr ?_
   refine dx [0, 1, 2, 3, 5, 6, 7, 8, 11, 12, 13, 14, 4, 9, 10, 15] [3, 8, 13] [] ?_
   refine rr ?_
   refine cld (ha) ?_
   intro _ _
   refine rrs ?_
   refine cld (hb) ?_
   intro _ _
   refine rrs ?_
   exact en () trivial
 by_cases h16 : m.f.i.op = 16
 ·rw [if_pos (.inr h16)]
  by_cases hab : va = vb
  ·rw [if_neg (by simp [hab, h15])]
   have hd : ((va == vb) == (m.f.i.op == 15)) = false := by simp [hab, h15]
   refine fn_intro Tryz.func113 Tryz.ntmps113 rfl rfl rfl (fun w0 => ?_)
   refine rrs ?_
   intro b1 _
   refine rr ?_
   refine dx [0, 1, 2, 3, 5, 6, 7, 8, 11, 12, 13, 14, 4, 9, 10, 15] [3, 8, 13] [] ?_
   refine rr ?_
   refine cld (ha) ?_
   intro _ _
   refine rrs ?_
   refine cld (hb) ?_
   intro _ _
   refine rrs ?_
   exact en () trivial
  ·rw [if_pos (by simp [hab, h15])]
   have hd : ((va == vb) == (m.f.i.op == 15)) = true := by
    rw [show (va == vb) = false by simpa using hab, show (m.f.i.op == 15) = false by simpa using h15]; rfl
   refine fn_intro Tryz.func113 Tryz.ntmps113 rfl rfl rfl (fun w0 => ?_)
   refine rrs ?_
   intro b1 _
   refine rr ?_
   refine dx [0, 1, 2, 3, 5, 6, 7, 8, 11, 12, 13, 14, 4, 9, 10, 15] [3, 8, 13] [] ?_
   refine rr ?_
   refine cld (ha) ?_
   intro _ _
   refine rrs ?_
   refine cld (hb) ?_
   intro _ _
   refine rrs ?_
   exact en () trivial
 rw [if_neg (fun h => h.elim h15 h16)]
 by_cases h17 : m.f.i.op = 17
 ·rw [if_pos (.inl h17)]
  refine fn_intro Tryz.func113 Tryz.ntmps113 rfl rfl rfl (fun w0 => ?_)
  refine rrs ?_
  intro b1 _
  refine rr ?_
  exact en () trivial
 by_cases h18 : m.f.i.op = 18
 ·rw [if_pos (.inr h18)]
  refine fn_intro Tryz.func113 Tryz.ntmps113 rfl rfl rfl (fun w0 => ?_)
  refine rrs ?_
  intro b1 _
  refine rr ?_
  exact en () trivial
 rw [if_neg (fun h => h.elim h17 h18)]
 by_cases h19 : m.f.i.op = 19
 ·rw [if_pos h19]
  refine fn_intro Tryz.func113 Tryz.ntmps113 rfl rfl rfl (fun w0 => ?_)
  refine rrs ?_
  intro b1 _
  refine rr ?_
  refine cl (ha) ?_
  intro _ _
  refine rrs ?_
  exact en () trivial
 rw [if_neg h19]
 refine fn_intro Tryz.func113 Tryz.ntmps113 rfl rfl rfl (fun w0 => ?_)
 refine rrs ?_
 intro b1 _
 refine rr ?_
 exact en () trivial
theorem fetPC (c : Nat) (nx : Int) (code : List In) (hk : k.cn = code.length) (hc : code.length ≤ 1000000) (m : PS) (x : Aq) : FnC (α := Unit) Tryz.prog 112 [qP c, .int .i64 nx] [blk c (pmC k m x) 136] [rng k.ca (insC code)] (fun _ => .tuple #[]) (fun _ => [blk c (pmC k (fetP code nx m) x) 136]) (fun _ => True) := by
 have hlen : (pmC k m x).length = 85 := rfl
 have hcl := insC_len code
 obtain ⟨ca0, cn, cc, mm, g, n⟩ := k
 dsimp only at hk
 subst hk
 unfold fetP fetL
 by_cases h0 : m.pc < 0
 ·rw [if_pos (.inl h0)]
  unfold qP
  refine fn_intro Tryz.func112 Tryz.ntmps112 rfl rfl rfl (fun w0 => ?_)
  refine rrs ?_
  intro b1 _
  refine rr ?_
  refine dx [0, 1, 2, 3, 4, 5, 6, 7, 8, 9, 10, 11, 12, 13, 14, 15, 16, 17] [3, 9, 13] [] ?_
  refine rr ?_
  exact en () trivial
 by_cases h1 : (code.length : Int) ≤ m.pc
 ·rw [if_pos (.inr h1)]
  unfold qP
  refine fn_intro Tryz.func112 Tryz.ntmps112 rfl rfl rfl (fun w0 => ?_)
  refine rrs ?_
  intro b1 _
  refine rr ?_
  refine dx [0, 1, 2, 3, 4, 5, 6, 7, 8, 9, 10, 11, 12, 13, 14, 15, 16, 17] [3, 9, 13] [] ?_
  refine rr ?_
  exact en () trivial
 rw [if_neg (fun h => h.elim h0 h1)]
 obtain ⟨i, hi⟩ := some_at (l := code) (k := m.pc.toNat) (by omega)
 have hgd : code.getD m.pc.toNat ⟨0, 0, 0, 0, 0⟩ = i := by rw [List.getD_eq_getElem?_getD, hi]; rfl
 rw [hgd]
 have hall : ((insC code).drop (m.pc.toNat * 5)).take 5 = [.int .i64 i.op, .int .i64 i.a, .int .i64 i.b, .int .i64 i.c, .int .i64 i.imm] := insC_all hi _ (by omega)
 have hright := rightIC i
 unfold qP inG at *
 cases hg : goodI i with
 | false =>
  rw [hg] at hright
  rw [if_pos rfl]
  refine fn_intro Tryz.func112 Tryz.ntmps112 rfl rfl rfl (fun w0 => ?_)
  try simp only [Sx.ap1, Sx.ap2, Sx.ap3]
  refine w_use (fun w hw => (hw.pick 1 rfl).rng_some (by omega)) ?_
  rintro ⟨g1, rfl⟩
  refine rr ?_
  intro b1 _
  refine rr ?_
  refine dx [0, 1, 2, 3, 4, 5, 6, 7, 8, 9, 10, 11, 12, 13, 14, 15, 16, 17] [3, 9, 13] [] ?_
  refine rr ?_
  refine dx [0, 1, 2, 3, 4, 5, 6, 7, 8, 9, 10, 11, 12] [3, 7, 9] [] ?_
  refine rr ?_
  refine cld (hright) ?_
  intro _ _
  refine rrs ?_
  exact en () trivial
 | true =>
  rw [hg] at hright
  rw [if_neg (by simp)]
  refine fn_intro Tryz.func112 Tryz.ntmps112 rfl rfl rfl (fun w0 => ?_)
  try simp only [Sx.ap1, Sx.ap2, Sx.ap3]
  refine w_use (fun w hw => (hw.pick 1 rfl).rng_some (by omega)) ?_
  rintro ⟨g1, rfl⟩
  refine rr ?_
  intro b1 _
  refine rr ?_
  refine dx [0, 1, 2, 3, 4, 5, 6, 7, 8, 9, 10, 11, 12, 13, 14, 15, 16, 17] [3, 9, 13] [] ?_
  refine rr ?_
  refine dx [0, 1, 2, 3, 4, 5, 6, 7, 8, 9, 10, 11, 12] [3, 7, 9] [] ?_
  refine rr ?_
  refine cld (hright) ?_
  intro _ _
  refine rrs ?_
  refine dx [0, 1, 2, 3, 4, 5, 6, 7, 8, 9, 10, 11] [3, 7, 9] [] ?_
  refine rr ?_
  exact en () trivial
end
section
variable {k : Kq} {m : PS} {st : Int}
theorem tmod_in {a b : Int} (h : inK32 a) : inK32 (a.tmod b) := by
 unfold inK32 at *
 have h1 : (a.tmod b).natAbs ≤ a.natAbs := by rw [Int.natAbs_tmod]; exact Nat.mod_le _ _
 by_cases h0 : 0 ≤ a
 ·have h2 := Int.tmod_nonneg b h0
  omega
 ·have h2 := Int.tmod_nonneg b (show 0 ≤ -a by omega)
  rw [Int.neg_tmod] at h2
  omega
theorem zero_in : inK32 0 := ⟨by decide, by decide⟩
theorem reckon_in (i : In) (b c : Int) : inK32 (reckonQ i b c).1 := by
 unfold reckonQ
 split
 ·exact w32_in _
 ·split
  ·split
   ·exact zero_in
   ·split
    ·exact tmod_in (w32_in _)
    ·exact w32_in _
  ·exact zero_in
theorem ok_lt0 : OkL lt0 := ⟨(fun h => by cases h), by decide, zero_in, zero_in, zero_in⟩
theorem writes_in (i : In) : 0 ≤ writesF i ∧ writesF i < 32 := by
 unfold writesF
 split
 ·rename_i h
  have hr := rgI h
  have ha := hr.a
  unfold fieldsF sysF
  (repeat' split) <;> simp <;> omega
 ·decide
theorem OkP.write (h : OkP k st m) : OkP k st (writeP m) := by
 unfold writeP
 split
 ·exact ⟨by simp [h.rl], mem_set h.rb h.a.val, h.ml, h.mb, h.pc, h.ol, h.kn, h.f, h.r, h.k, ok_lt0⟩
 ·exact ⟨h.rl, h.rb, h.ml, h.mb, h.pc, h.ol, h.kn, h.f, h.r, h.k, ok_lt0⟩
theorem OkP.act (h : OkP k st m) : OkP k st (actP m).2 := by
 have hk : OkP k st { m with k := lt0 } := ⟨h.rl, h.rb, h.ml, h.mb, h.pc, h.ol, h.kn, h.f, h.r, ok_lt0, h.a⟩
 have hl := h.k
 unfold actP
 generalize m.k = l at *
 generalize ({ m with k := lt0 } : PS) = n at *
 clear h
 have hset : ∀ a, OkL a → OkP k st { n with a := a } := fun a ha => ⟨hk.rl, hk.rb, hk.ml, hk.mb, hk.pc, hk.ol, hk.kn, hk.f, hk.r, hk.k, ha⟩
 unfold actL
 split
 ·exact hk
 ·split
  ·unfold ldP
   split
   ·rename_i hl2; exact hk
   ·rename_i v hv
    refine hset _ ⟨hl.good, hl.reg, ?_, hl.sto, hl.whr⟩
    split at hv
    ·cases hv
    ·exact hk.mb v (List.mem_of_getElem? hv)
  ·split
   ·split
    ·exact hk
    ·exact ⟨hk.rl, hk.rb, by simp [hk.ml], mem_set hk.mb (w32_in _), hk.pc, hk.ol, hk.kn, hk.f, hk.r, hk.k, hl⟩
   ·split
    ·rename_i hoff _ _ _
     have hg : l.full = true ∧ l.trap = 0 := by
      refine ⟨?_, Classical.not_not.1 (fun h => hoff (.inr h))⟩
      cases h : l.full with
      | true => rfl
      | false => exact absurd (.inl h) hoff
     have hgd := hl.good hg.1 hg.2
     unfold sysP
     split
     ·exact hset _ ⟨fun _ _ => hgd, hl.reg, hl.val, hl.sto, hl.whr⟩
     ·split
      ·split
       ·exact hset _ ⟨fun _ _ => hgd, hl.reg, hl.val, hl.sto, hl.whr⟩
       ·exact ⟨hk.rl, hk.rb, hk.ml, hk.mb, hk.pc, hk.ol, hk.kn, hk.f, hk.r, hk.k, ⟨fun _ _ => hgd, hl.reg, w32_in _, hl.sto, hl.whr⟩⟩
      ·split
       ·split
        ·exact hset _ ⟨fun _ _ => hgd, hl.reg, hl.val, hl.sto, hl.whr⟩
        ·exact ⟨hk.rl, hk.rb, hk.ml, hk.mb, hk.pc, by simp; omega, hk.kn, hk.f, hk.r, hk.k, hl⟩
       ·exact hset _ hl
    ·exact hset _ hl
theorem OkP.reck {ah : Lt} (h : OkP k st m) (ha : OkL ah) : OkP k st (reckP ah m) := by
 unfold reckP
 refine ⟨h.rl, h.rb, h.ml, h.mb, h.pc, h.ol, h.kn, h.f, ok_lt0, ?_, h.a⟩
 have hl := h.r
 have hrb := h.rb
 dsimp only
 unfold reckL
 split
 ·rename_i hon
  have hgd := hl.good hon.1 hon.2
  have hw := writes_in m.r.i
  dsimp only
  split
  ·split
   ·exact ⟨fun _ _ => hgd, hw, hl.val, early_in ha hrb, w32_in _⟩
   ·exact ⟨fun _ _ => hgd, hw, hl.val, early_in ha hrb, w32_in _⟩
  ·split
   ·exact ⟨fun _ _ => hgd, hw, ⟨by dsimp only; omega, by dsimp only; omega⟩, early_in ha hrb, w32_in _⟩
   ·split
    ·exact ⟨fun _ _ => hgd, hw, hl.val, early_in ha hrb, w32_in _⟩
    ·exact ⟨fun _ _ => hgd, hw, reckon_in _ _ _, early_in ha hrb, w32_in _⟩
 ·exact hl
theorem OkP.dec (h : OkP k st m) : OkP k st (decP m).2 := ⟨h.rl, h.rb, h.ml, h.mb, h.pc, h.ol, h.kn, ok_lt0, h.f, h.k, h.a⟩
theorem dec_in (hs : 0 ≤ st) (h : OkP k st m) : -10000000000 ≤ (decP m).1 ∧ (decP m).1 ≤ 10000000000 + (st + 1) := by
 have hpc := h.pc
 have hd := h.dec
 have hi := fun n => now_in (n := n) hd
 unfold inK32 at hi
 unfold decP decL at *
 dsimp only at *
 split
 ·omega
 ·rename_i hoff
  have hg : m.f.full = true ∧ m.f.trap = 0 := by
   refine ⟨?_, Classical.not_not.1 (fun h => hoff (.inr h))⟩
   cases h : m.f.full with
   | true => rfl
   | false => exact absurd (.inl h) hoff
  have hgd := h.f.good hg.1 hg.2
  have himm := (rgI hgd.1).imm
  have hia := hi m.f.i.a
  split
  ·split <;> omega
  ·split
   ·omega
   ·split <;> omega
theorem OkP.fet {code : List In} (hc : code.length ≤ 4096) {nx : Int} (h : OkP k st m) (hn : -10000000000 ≤ nx ∧ nx ≤ 10000000000 + (st + 1)) : OkP k (st + 1) (fetP code nx m) := by
 unfold fetP
 refine ⟨h.rl, h.rb, h.ml, h.mb, hn, h.ol, h.kn, ?_, h.r, h.k, h.a⟩
 dsimp only
 unfold fetL
 split
 ·exact ⟨(fun _ h => by cases h), ⟨Int.le_refl 0, (by decide : (0 : Int) < 32)⟩, zero_in, zero_in, zero_in⟩
 ·rename_i hp
  split
  ·exact ⟨(fun _ h => by cases h), ⟨Int.le_refl 0, (by decide : (0 : Int) < 32)⟩, zero_in, zero_in, zero_in⟩
  ·rename_i hg
   refine ⟨fun _ _ => ⟨by simpa using hg, ?_, ?_⟩, ⟨Int.le_refl 0, (by decide : (0 : Int) < 32)⟩, zero_in, zero_in, zero_in⟩
   ·dsimp only; omega
   ·dsimp only; omega
theorem OkP.cyc {code : List In} (hc : code.length ≤ 4096) (hs : 0 ≤ st) (h : OkP k st m) : OkP k (st + 1) (cycP code m).2 := by
 unfold cycP
 dsimp only
 have h3 := (h.write.act).reck (h.write.k)
 exact h3.dec.fet hc (dec_in hs h3)
theorem okp0 (ca : Option Addr) (cn cc mm g n : Nat) (inp : List Int) (hn : n ≤ 32000) : OkP ⟨ca, cn, cc, mm, g, n⟩ 0 (ps0 n inp) := by
 refine ⟨by simp [ps0], ?_, by simp [ps0], ?_, by simp [ps0], by simp [ps0], hn, ok_lt0, ok_lt0, ok_lt0, ok_lt0⟩
 ·intro r hr
  simp only [ps0, List.mem_replicate] at hr
  rw [hr.2]; exact zero_in
 ·intro r hr
  simp only [ps0, List.mem_replicate] at hr
  rw [hr.2]; exact zero_in
end
section
variable {IA : Addr} {L : List Int} {k : Kq}
theorem writeP_inp (m : PS) : (writeP m).inp = m.inp := by unfold writeP; split <;> rfl
theorem writeP_out (m : PS) : (writeP m).out = m.out := by unfold writeP; split <;> rfl
theorem writeP_mem (m : PS) : (writeP m).mem = m.mem := by unfold writeP; split <;> rfl
theorem cycPC (c : Nat) (code : List In) (m : PS) (x : Aq) {st : Int} (hs : 0 ≤ st ∧ st ≤ 100000000) (hk : k.cn = code.length) (hc : code.length ≤ 1000000) (hm : OkP k st m) (hx : OkPn IA L m x) : FnC Tryz.prog 57 [qP c] (mpH c k m x) [rng k.ca (insC code), inB IA L] (fun _ => .int .i64 (cycP code m).1) (fun y : Aq => mpH c k (cycP code m).2 y) (fun y => OkPn IA L (cycP code m).2 y) := by
 have h1 := writePC (k := k) (m := m) (x := x) c hm.rl hm.a.reg
 have hm1 := hm.write
 have e1 := writeP_inp m
 have e2 := writeP_out m
 have e3 := writeP_mem m
 unfold cycP
 generalize writeP m = m1 at *
 have h2 := actPC (IA := IA) (L := L) (k := k) c m1 x hm1 (hx.same e1 rfl rfl)
 have hm2 := hm1.act
 dsimp only
 generalize actP m1 = r at *
 obtain ⟨tr, m2⟩ := r
 dsimp only at *
 have h3 := fun y => reckPC (k := k) c m1.k m2 y hm2 hm1.k
 have hm3 := hm2.reck hm1.k
 have e4 : (reckP m1.k m2).inp = m2.inp := rfl
 have e5 : (reckP m1.k m2).out = m2.out := rfl
 have e6 : (reckP m1.k m2).mem = m2.mem := rfl
 generalize reckP m1.k m2 = m3 at *
 have h4 := fun y => decPC (k := k) c m3 y hs hm3
 have e7 : (decP m3).2.inp = m3.inp := rfl
 have e8 : (decP m3).2.out = m3.out := rfl
 have e9 : (decP m3).2.mem = m3.mem := rfl
 generalize decP m3 = d at *
 obtain ⟨nx, m4⟩ := d
 dsimp only at *
 have h5 := fun y => fetPC (k := k) c nx code hk hc m4 y
 have e10 : (fetP code nx m4).inp = m4.inp := rfl
 have e11 : (fetP code nx m4).out = m4.out := rfl
 have e12 : (fetP code nx m4).mem = m4.mem := rfl
 generalize fetP code nx m4 = m5 at *
 unfold mpH qP ltG at *
 refine fn_intro Tryz.func57 Tryz.ntmps57 rfl rfl rfl (fun w0 => ?_)
 refine rrs ?_
 refine cl (h1) ?_
 intro _ _
 try simp only [Sx.ap1, Sx.ap2, Sx.ap3]
 rw [← e3, ← e2]
 refine rr ?_
 intro b1 _
 refine rr ?_
 refine cl (h2) ?_
 intro y hy
 refine rrs ?_
 refine cl (h3 y) ?_
 intro _ _
 refine rrs ?_
 refine cl (h4 y) ?_
 intro _ _
 refine rrs ?_
 refine cl (h5 y) ?_
 intro _ _
 refine rrs ?_
 rw [← e6, ← e5, ← e9, ← e8, ← e12, ← e11]
 exact en y (hy.same (e10.trans (e7.trans e4)) rfl rfl)
end
theorem runP_zero (code : List In) (m : PS) : runP code 0 m = (0, 0, m) := rfl
theorem runP_succ (code : List In) (f : Nat) (m : PS) : runP code (f + 1) m = if (cycP code m).1 = 0 then ((runP code f (cycP code m).2).1, (runP code f (cycP code m).2).2.1 + 1, (runP code f (cycP code m).2).2.2) else ((cycP code m).1, 1, (cycP code m).2) := rfl
theorem pipC (ca0 : Option Addr) (cc : Nat) (code : List In) (mem : Int) (ia : Option Addr) (ic : Nat) (inp : List Int) (fuel : Int) (hf : fuel ≤ 100000000) (hil : inp.length ≤ 1000000) : FnC Tryz.prog 24 [.slice ca0 code.length cc, .int .i64 mem, .slice ia inp.length ic, .int .i64 fuel] [] [rng ca0 (insC code), rng ia (i64C inp)] (fun z => resG (pipQ code mem inp fuel) z) (fun z => resH (pipQ code mem inp fuel) z) (fun _ => True) := by
 unfold pipQ
 by_cases hbad : mem < 0 ∨ 32000 < mem
 ·rw [if_pos (by omega)]
  have h1 := newBad mem hbad
  unfold resG resH
  by_cases hcl : (code.length : Int) > 4096
  ·skip
   refine fn_intro Tryz.func24 Tryz.ntmps24 rfl rfl rfl (fun w0 => ?_)
   refine rrs ?_
   intro b8 _
   refine rr ?_
   refine cl (h1) ?_
   intro _ _
   refine rrs ?_
   exact en (none, 0, none, 0) trivial
  ·skip
   refine fn_intro Tryz.func24 Tryz.ntmps24 rfl rfl rfl (fun w0 => ?_)
   refine rrs ?_
   intro b8 _
   refine rr ?_
   refine cl (h1) ?_
   intro _ _
   refine rrs ?_
   exact en (none, 0, none, 0) trivial
 ·obtain ⟨n, rfl⟩ : ∃ n : Nat, mem = n := ⟨mem.toNat, by omega⟩
  have h1 := newOk n (by omega)
  by_cases hcl : (code.length : Int) > 4096
  ·rw [if_pos (by omega)]
   unfold resG resH
   unfold memH mP at h1
   refine fn_intro Tryz.func24 Tryz.ntmps24 rfl rfl rfl (fun w0 => ?_)
   refine rrs ?_
   intro b8 _
   refine rr ?_
   refine cl (h1) ?_
   intro _ _
   refine rrs ?_
   exact en (none, 0, none, 0) trivial
  ·rw [if_neg (by omega)]
   have h2 := cloneIC ia ic inp (by omega)
   rw [Int.toNat_natCast]
   generalize hR : runP code fuel.toNat (ps0 n inp) = R
   dsimp only
   unfold memH mP at h1
   have hus := fun (mm g : Nat) (l : List Int) (hl : l.length = n) => usedC mm g n l (by omega) hl
   unfold memH mP at hus
   refine fn_intro Tryz.func24 Tryz.ntmps24 rfl rfl rfl (fun w0 => ?_)
   refine rrs ?_
   intro b8 _
   refine rr ?_
   refine cl (h1) ?_
   intro ⟨mm, g⟩ _
   refine rrs ?_
   refine cl (h2) ?_
   intro ⟨ja, jc⟩ _
   refine rrs ?_
   intro c _
   refine rr ?_
   intro b11 _
   refine rr ?_
   have hstep := fun IA L m x (st : Int) (hst : 0 ≤ st ∧ st ≤ 100000000) (h1 : OkP ⟨ca0, code.length, cc, mm, g, n⟩ st m) (h2 : OkPn IA L m x) => cycPC c code m x hst rfl (by omega) h1 h2
   unfold mpH qP at hstep
   dsimp only at hstep
   refine hv ([blk c (pmC ⟨ca0, code.length, cc, mm, g, n⟩ (ps0 n inp) ⟨ja, jc, none, 0⟩) 136, blk mm [.slice (some ⟨g, 0, none⟩) n n] 190, row (some ⟨g, 0, none⟩) n 3 1 n (i64C (ps0 n inp).mem), row none 0 3 1 0 (i64C []), blk b11 [.int .i64 0, .int .i64 ((0 : Nat) : Int), .slice none 0 0, .slice none 0 0] 54, row ja jc 3 1 inp.length (i64C inp), blk b8 [.int .i64 0, .int .i64 0, .slice none 0 0, .slice none 0 0] 54, rng ca0 (insC code), rng ia (i64C inp)]) ?_
   refine w_use (fun w hw => (hw.pick 5 rfl).row_cap) fun hcap => ?_
   refine w_use (p := inp ≠ [] → ∃ g1, ja = some ⟨g1, 0, none⟩) (fun w hw h => (hw.pick 5 rfl).row_some (List.length_pos_iff.2 h)) fun hsome => ?_
   obtain ⟨g1, hIA⟩ : ∃ g1 : Nat, inp ≠ [] → ja = some ⟨g1, 0, none⟩ := by
    by_cases h : inp = []
    ·exact ⟨0, fun h2 => absurd h h2⟩
    ·obtain ⟨g1, hg1⟩ := hsome h; exact ⟨g1, fun _ => hg1⟩
   have hlend : ∀ (R : List Chunk) (j : Nat), nthC R j = some (row ja jc 3 1 inp.length (i64C inp)) → LendsAll R [inB ⟨g1, 0, none⟩ inp] := fun R j hj => by
    by_cases h : inp = []
    ·rw [h]; exact lend_nil trivial
    ·rw [hIA h] at hj; exact lend_row hj trivial
   refine lo [3, 8, 9, 10, 11] (fun z : Nat × Int × PS × Aq => []) (fun z => [(0, blk c (pmC ⟨ca0, code.length, cc, mm, g, n⟩ z.2.2.1 z.2.2.2) 136), (2, row (some ⟨g, 0, none⟩) n 3 1 n (i64C z.2.2.1.mem)), (3, row z.2.2.2.oa z.2.2.2.oc 3 1 z.2.2.1.out.length (i64C z.2.2.1.out)), (4, blk b11 [.int .i64 z.2.1, .int .i64 (z.1 : Int), .slice none 0 0, .slice none 0 0] 54)])
    (fun z => OkP ⟨ca0, code.length, cc, mm, g, n⟩ (z.1 : Int) z.2.2.1 ∧ OkPn ⟨g1, 0, none⟩ inp z.2.2.1 z.2.2.2 ∧ z.1 ≤ fuel.toNat ∧ (z.2.1 = 0 → R = ((runP code (fuel.toNat - z.1) z.2.2.1).1, (runP code (fuel.toNat - z.1) z.2.2.1).2.1 + z.1, (runP code (fuel.toNat - z.1) z.2.2.1).2.2)) ∧ (z.2.1 ≠ 0 → R = (z.2.1, (z.1 : Int), z.2.2.1))) (fun z => fuel.toNat - z.1 + (if z.2.1 = 0 then 1 else 0)) (0, 0, ps0 n inp, ⟨ja, jc, none, 0⟩) ⟨okp0 _ _ _ _ _ _ _ (by omega), ⟨fun h => ⟨0, rfl, by rw [hIA h]; rfl⟩, hcap⟩, Nat.zero_le _, fun _ => by rw [← hR]; simp, fun h => absurd rfl h⟩ ?_
   rintro ⟨st, tr, m, y⟩ ⟨hm, hin, hst, hr0, hr1⟩ K1 hK1
   dsimp only at hm hin hst hr0 hr1 ⊢
   by_cases hgo : tr = 0 ∧ (st : Int) < fuel
   ·obtain ⟨htr, hlt⟩ := hgo
    subst htr
    have hr0 := hr0 rfl
    obtain ⟨f, hf1⟩ : ∃ f, fuel.toNat - st = f + 1 := ⟨fuel.toNat - st - 1, by omega⟩
    rw [hf1, runP_succ] at hr0
    have hs := hstep ⟨g1, 0, none⟩ inp m y st (by omega) hm hin
    have hms := hm.cyc (code := code) (by omega) (by omega)
    generalize cycP code m = q at *
    obtain ⟨tr2, m2⟩ := q
    dsimp only at hs hms hr0
    refine rr ?_
    refine cl (hs) ?_ (hl := lend_cons rfl (by repeat (first | exact find_here | apply find_there)) (hlend _ _ (by repeat (first | exact find_here | apply find_there))))
    intro y2 hy2
    simp only [List.cons_append, List.nil_append]
    refine rr ?_
    refine ro hK1 (st + 1, tr2, m2, y2) ⟨hms, hy2, by dsimp only; omega, ?_, ?_⟩ (hμ := ?_)
    ·intro h
     dsimp only at h ⊢
     rw [if_pos h] at hr0
     rw [show fuel.toNat - (st + 1) = f by omega, hr0]
     simp only [Prod.mk.injEq, true_and, and_true]
     omega
    ·intro h
     dsimp only at h ⊢
     rw [if_neg h] at hr0
     rw [hr0]
     simp only [Prod.mk.injEq, true_and, and_true]
     omega
    ·dsimp only
     split <;> split <;> omega
   ·have hR2 : R = (tr, (st : Int), m) := by
     by_cases h0 : tr = 0
     ·have h1 := hr0 h0
      rw [show fuel.toNat - st = 0 by omega, runP_zero] at h1
      rw [h1, h0]
      simp
     ·exact hr1 h0
    rw [hR2]
    dsimp only
    have hus := hus mm g m.mem hm.ml
    unfold resG resH
    by_cases h0 : tr = 0
    ·have hge : ¬ (st : Int) < fuel := fun h => hgo ⟨h0, h⟩
     refine rr ?_
     refine dr [0, 1, 2, 3, 4, 6, 5, 7, 8, 9] [3] [0] ?_
     refine rr ?_
     refine cld (hus) ?_
     intro z _
     refine rrs ?_
     exact en (y.oa, y.oc, z.1, z.2) trivial
    ·skip
     refine rr ?_
     refine dr [0, 1, 2, 3, 4, 6, 5, 7, 8, 9] [3] [0] ?_
     refine rr ?_
     refine cld (hus) ?_
     intro z _
     refine rrs ?_
     exact en (y.oa, y.oc, z.1, z.2) trivial
end Go.Proofs.YtkolmklfgbimoaaGreatDoor
namespace Go.Sx
open Go Chunk
open Go.ChangeShapes Go.WideShapes Go.RowKit
section
set_option maxRecDepth 512
section
variable {H : Type} {enc : TypeId × Value → H} {P : Program} {w : World} {base b0 : Nat} {spare : Nat → Bool} {held : Bool} {r : Reach}
def Light (P : Program) (t : TypeId) (d : DataW H) : Prop := ∀ n ∈ d.weights P t, n ≤ reachBytes
def DecW (enc : TypeId × Value → H) (P : Program) (w : World) (base : Nat) (spare : Nat → Bool) (held : Bool) (t : TypeId) {α : Type} (cells : α → List Value) (ok : α → Prop) (seen : α → List Chunk) : Prop :=
 ∀ (fuel : Nat) (cs : List Value) (x : DataW H × List MemPlace), DataW.trod enc P w base spare held fuel t cs = some x → Light P t x.1 → ∃ a : α, cs = cells a ∧ ok a ∧ Seen w (seen a)
theorem decW_of {t : TypeId} {α : Type} {cells : α → List Value} {ok : α → Prop} {seen : α → List Chunk} (h : Dec enc P w base spare held t cells ok seen) : DecW enc P w base spare held t cells ok seen := fun fuel cs x hx _ => h fuel cs x hx
theorem DecW.iso {t : TypeId} {α β : Type} {c1 : α → List Value} {ok1 : α → Prop} {s1 : α → List Chunk} {c2 : β → List Value} {ok2 : β → Prop} {s2 : β → List Chunk} (g : α → β) (hc : ∀ a, c1 a = c2 (g a)) (ho : ∀ a, ok1 a → ok2 (g a)) (hs : ∀ a, s1 a = s2 (g a)) (h : DecW enc P w base spare held t c1 ok1 s1) : DecW enc P w base spare held t c2 ok2 s2 := fun fuel cs x hx hl => by
 obtain ⟨a, h1, h2, h3⟩ := h fuel cs x hx hl
 exact ⟨g a, by rw [h1, hc], ho a h2, by rw [← hs]; exact h3⟩
theorem weightsAll_mem {e : TypeId} : ∀ {l : List (DataW H)} {d : DataW H}, d ∈ l → ∀ n ∈ d.weights P e, n ∈ DataW.weightsAll P e l
 | [], d, h, n, hn => by simp at h
 | y :: l, d, h, n, hn => by
  simp only [DataW.weightsAll, List.mem_append]
  rcases List.mem_cons.1 h with rfl | h
  ·exact .inl hn
  ·exact .inr (weightsAll_mem h n hn)
theorem weightsEach_mem {fs : List Field} : ∀ {l : List (DataW H)} {i : Nat} {f : Field} {d : DataW H}, fs[i]? = some f → l[i]? = some d → ∀ n ∈ d.weights P f.type, n ∈ DataW.weightsEach P (fs.map (·.type)) l := fun {l i f d} hf hd n hn =>
 DataW.weights_mem_each (j := i) (t := f.type) (by simp [hf]) hd n hn
theorem decW_slice {t e : TypeId} {α : Type} {cells : α → List Value} {ok : α → Prop} {seen : α → List Chunk} {sz bz : Nat} (ht : P.underlying t = some (.slice e)) (hsz : P.cellsOf e = sz) (hbz : P.bytesOf e = bz) (hpos : 0 < sz) (hc : ∀ a, (cells a).length = sz) (hd : DecW enc P w base spare held e cells ok seen) :
  DecW enc P w base spare held t (fun x : Option Addr × Nat × List α => [.slice x.1 x.2.2.length x.2.1]) (fun x => (x.2.2.length ≤ x.2.1 ∧ x.2.1 ≤ maxLen ∧ x.2.2.length * bz ≤ reachBytes) ∧ ∀ a ∈ x.2.2, ok a) (fun x => rng x.1 (x.2.2.flatMap cells) :: x.2.2.flatMap seen) := fun fuel cs x h hlight => by
 have hlt := DataW.trod_lt fuel t cs x h
 rcases DataW.trod_slice ht h with ⟨rfl, _⟩ | ⟨a, len, cap, elems, rest, n, _, rfl, rfl, hb, hl, hm, hlen, hel, hsp, hns⟩
 ·exact ⟨(none, 0, []), rfl, ⟨⟨Nat.le_refl _, by unfold maxLen; exact Nat.zero_le _, by simp⟩, by simp⟩, ⟨rfl, fun j v hj => by simp at hj, fun k hk => absurd rfl hk.1⟩, trivial⟩
 ·have hw0 : ∀ n ∈ DataW.weights P t (.slice (elems.map (·.1)) (rest.map (·.1)) : DataW H), n ≤ reachBytes := hlight
  have hw1 : (elems.length + rest.length) * bz ≤ reachBytes := hw0 _ (by simp [DataW.weights, ht, hbz])
  have each : ∀ i, i < len → ∃ b : α, (∀ j v, (cells b)[j]? = some v → w.cell? (a.add (i * sz + j)) = some v) ∧ ok b ∧ Seen w (seen b) := by
   intro i hi
   have h1 := hel i hi
   rw [hsz, List.getElem?_eq_getElem (by omega), Option.bind_eq_some_iff] at h1
   obtain ⟨cs', hcs, hy⟩ := h1
   obtain ⟨b, rfl, hok, hseen⟩ := hd n cs' _ hy (fun n hn => hw0 n (by
    simp only [DataW.weights, ht, List.mem_cons, List.mem_append]
    exact .inr (.inl (weightsAll_mem (List.mem_map.2 ⟨elems[i], List.getElem_mem _, rfl⟩) n hn))))
   refine ⟨b, fun j v hj => ?_, hok, hseen⟩
   obtain ⟨_, h2, h3⟩ := World.cells?_some hcs
   have hj' := (List.getElem?_eq_some_iff.1 hj).1
   have := h3 j (by rw [hc] at hj'; omega)
   rw [add_add] at this
   rw [this, hj]
  have key : ∀ m, m ≤ len → ∃ l : List α, l.length = m ∧ (∀ b ∈ l, ok b ∧ Seen w (seen b)) ∧ ∀ j v, (l.flatMap cells)[j]? = some v → w.cell? (a.add j) = some v := by
   intro m
   induction m with
   | zero => exact fun _ => ⟨[], rfl, by simp, by simp⟩
   | succ m ih =>
    intro hm'
    obtain ⟨l, hl1, hl2, hl3⟩ := ih (by omega)
    obtain ⟨b, hb1, hb2, hb3⟩ := each m (by omega)
    refine ⟨l ++ [b], by simp [hl1], ?_, ?_⟩
    ·intro c hc'
     rcases List.mem_append.1 hc' with hc' | hc'
     ·exact hl2 c hc'
     ·simp only [List.mem_singleton] at hc'
      subst hc'
      exact ⟨hb2, hb3⟩
    ·intro j v hj
     rw [List.flatMap_append, List.flatMap_cons, List.flatMap_nil, List.append_nil] at hj
     have hfl := flat_len hc l
     rw [hl1] at hfl
     by_cases hjl : j < m * sz
     ·rw [List.getElem?_append_left (by omega)] at hj
      exact hl3 j v hj
     ·rw [List.getElem?_append_right (by omega), hfl] at hj
      have := hb1 (j - m * sz) v hj
      rwa [show m * sz + (j - m * sz) = j by omega] at this
  obtain ⟨l, hl1, hl2, hl3⟩ := key len (Nat.le_refl _)
  refine ⟨(some a, cap, l), (by show [Value.slice (some a) len cap] = [.slice (some a) l.length cap]; rw [hl1]), ⟨⟨by dsimp only; omega, hm, ?_⟩, fun b hb' => (hl2 b hb').1⟩, ⟨rfl, fun j v hj => ⟨a, rfl, hl3 j v hj⟩, fun k hk => ?_⟩, Seen.flat (fun b hb' => (hl2 b hb').2)⟩
  ·dsimp only
   rw [hl1, ← hlen]
   exact Nat.le_trans (Nat.mul_le_mul_right _ (Nat.le_add_right _ _)) hw1
  ·obtain ⟨hne, a', ha, rfl⟩ := hk
   cases ha
   have hfl := flat_len hc l
   have hl0 : 0 < l.length := by
    rcases Nat.eq_zero_or_pos l.length with h0 | h0
    ·rw [List.length_eq_zero_iff.1 h0] at hne; simp at hne
    ·exact h0
   have := hlt (.cell a.block (a.off + 0)) (by
    refine List.mem_append.2 (.inl ?_)
    unfold MemPlace.row
    refine List.mem_map.2 ⟨0, ?_, rfl⟩
    rw [List.mem_range, hsz]
    exact Nat.mul_pos (by omega) hpos)
   exact this
def DecFW (enc : TypeId × Value → H) (P : Program) (w : World) (base : Nat) (spare : Nat → Bool) (held : Bool) (fs : List Field) (o sz : Nat) {α : Type} (cells : α → List Value) (ok : α → Prop) (seen : α → List Chunk) : Prop :=
 ∀ (n : Nat) (cs : List Value), (∀ f ∈ fs, ∃ y, DataW.trod enc P w base spare held n f.type ((cs.drop f.offset).take (P.cellsOf f.type)) = some y ∧ Light P f.type y.1) → ∃ a : α, (cs.drop o).take sz = cells a ∧ ok a ∧ Seen w (seen a)
theorem decFW_nil {o : Nat} : DecFW enc P w base spare held [] o 0 (α := Unit) (fun _ => []) (fun _ => True) (fun _ => []) := fun n cs _ => ⟨(), by simp, trivial, trivial⟩
theorem decFW_cons {f : Field} {fs : List Field} {o k sz : Nat} {α β : Type} {c1 : α → List Value} {ok1 : α → Prop} {s1 : α → List Chunk} {c2 : β → List Value} {ok2 : β → Prop} {s2 : β → List Chunk} (ho : f.offset = o) (hk : P.cellsOf f.type = k)
  (h1 : DecW enc P w base spare held f.type c1 ok1 s1) (h2 : DecFW enc P w base spare held fs (o + k) sz c2 ok2 s2) : DecFW enc P w base spare held (f :: fs) o (k + sz) (fun x : α × β => c1 x.1 ++ c2 x.2) (fun x => ok1 x.1 ∧ ok2 x.2) (fun x => s1 x.1 ++ s2 x.2) := fun n cs h => by
 obtain ⟨y, hy, hyl⟩ := h f (by simp)
 rw [ho, hk] at hy
 obtain ⟨a, ha, hoa, hsa⟩ := h1 n _ _ hy hyl
 obtain ⟨b, hb, hob, hsb⟩ := h2 n cs (fun g hg => h g (by simp [hg]))
 refine ⟨(a, b), ?_, ⟨hoa, hob⟩, hsa.append hsb⟩
 show _ = c1 a ++ c2 b
 rw [← ha, ← hb, List.take_add, List.drop_drop]
theorem decW_struct {t : TypeId} {fs : Array Field} {sz : Nat} {α : Type} {cells : α → List Value} {ok : α → Prop} {seen : α → List Chunk} (ht : P.underlying t = some (.struct fs)) (hsz : P.cellsOf t = sz) (h : DecFW enc P w base spare held fs.toList 0 sz cells ok seen) : DecW enc P w base spare held t cells ok seen := fun fuel cs x hx hlight => by
 obtain ⟨xs, n, _, rfl, hl, hlen, hf⟩ := DataW.trod_struct ht hx
 have hw0 : ∀ n ∈ DataW.weights P t (.agg (xs.map (·.1)) : DataW H), n ≤ reachBytes := hlight
 obtain ⟨a, ha, h1, h2⟩ := h n cs (fun f hf' => by
  obtain ⟨i, hi⟩ := List.mem_iff_getElem?.1 hf'
  have hi' : fs[i]? = some f := by simpa using hi
  have := hf i f hi'
  have hlt : i < xs.length := by rw [hlen]; exact (Array.getElem?_eq_some_iff.1 hi').1
  refine ⟨xs[i], by rw [this]; simp [hlt], fun n hn => hw0 n ?_⟩
  simp only [DataW.weights, ht]
  exact weightsEach_mem (i := i) hi (by simp [hlt]) n hn)
 refine ⟨a, ?_, h1, h2⟩
 rw [List.drop_zero, List.take_of_length_le (by omega)] at ha
 exact ha
theorem light_arg {ts : List TypeId} {ds : List (DataW H)} (h : (DataW.weightsEach P ts ds).all (· ≤ reachBytes) = true) {j : Nat} {t : TypeId} {d : DataW H} (ht : ts[j]? = some t) (hd : ds[j]? = some d) : Light P t d := fun n hn => by
 have := List.all_eq_true.1 h n (DataW.weights_mem_each ht hd n hn)
 simpa using this
theorem arg_sliceW {t e : TypeId} {α : Type} {cells : α → List Value} {ok : α → Prop} {seen : α → List Chunk} {sz bz : Nat} {v : Value} {d : DataW H} {ps : List MemPlace} (ht : P.underlying t = some (.slice e)) (hsz : P.cellsOf e = sz) (hbz : P.bytesOf e = bz) (hpos : 0 < sz) (hc : ∀ a, (cells a).length = sz) (hd : DecW enc P w base spare held e cells ok seen)
  (hv : Value.okWide P w r b0 t v) (h : DataW.Trod enc P w base spare held t v d ps) (hl : Light P t d) :
  ∃ (ao : Option Addr) (cap : Nat) (l : List α), v = .slice ao l.length cap ∧ l.length ≤ cap ∧ cap ≤ maxLen ∧ l.length * bz ≤ reachBytes ∧ (∀ a ∈ l, ok a) ∧ Seen w (rng ao (l.flatMap cells) :: l.flatMap seen) := by
 obtain ⟨a0, len, cap, rfl⟩ := okWide_slice ht hv
 obtain ⟨fuel, hf⟩ := h
 obtain ⟨⟨ao, cap', l⟩, hcs, ⟨⟨h1, h2, h3⟩, h4⟩, h5⟩ := decW_slice ht hsz hbz hpos hc hd fuel _ _ hf hl
 simp [Value.cells] at hcs
 obtain ⟨rfl, rfl, rfl⟩ := hcs
 exact ⟨a0, cap, l, rfl, h1, h2, h3, h4, h5⟩
theorem arg_structW {t : TypeId} {fs : Array Field} {α : Type} {cells : α → List Value} {ok : α → Prop} {seen : α → List Chunk} {v : Value} {d : DataW H} {ps : List MemPlace} (ht : P.underlying t = some (.struct fs)) (hd : DecW enc P w base spare held t cells ok seen)
  (hv : Value.okWide P w r b0 t v) (h : DataW.Trod enc P w base spare held t v d ps) (hl : Light P t d) :
  ∃ a : α, v = .agg (cells a).toArray ∧ ok a ∧ Seen w (seen a) := by
 obtain ⟨cs, rfl, _⟩ := okWide_struct ht hv
 obtain ⟨fuel, hf⟩ := h
 obtain ⟨a, hcs, h1, h2⟩ := hd fuel _ _ hf hl
 refine ⟨a, ?_, h1, h2⟩
 rw [← hcs]
 simp [Value.cells]
end
end
end Go.Sx
namespace Go.Proofs.YtkolmklfgbimoaaGreatDoor
open Go Go.Sx Go.Sx.Chunk
open Go.ChangeShapes Go.WideShapes Go.RowKit
section
section
variable {H : Type} {enc : TypeId × Value → H} {w : World} {base : Nat} {spare : Nat → Bool} {held : Bool}
theorem decI : DecW enc Tryz.prog w base spare held 105 inV (fun a => inK .i64 a.op ∧ inK .i64 a.a ∧ inK .i64 a.b ∧ inK .i64 a.c ∧ inK .i64 a.imm) (fun _ => []) :=
 (decW_struct Tryz.underlying105 (sz := 5) (by kernel_rfl) (decFW_cons (k := 1) (sz := 4) rfl (by kernel_rfl) (decW_of (dec_int Tryz.underlying3)) (decFW_cons (k := 1) (sz := 3) rfl (by kernel_rfl) (decW_of (dec_int Tryz.underlying3)) (decFW_cons (k := 1) (sz := 2) rfl (by kernel_rfl) (decW_of (dec_int Tryz.underlying3)) (decFW_cons (k := 1) (sz := 1) rfl (by kernel_rfl) (decW_of (dec_int Tryz.underlying3)) (decFW_cons (k := 1) (sz := 0) rfl (by kernel_rfl) (decW_of (dec_int Tryz.underlying3)) decFW_nil)))))).iso
  (fun (x : Int × Int × Int × Int × Int × Unit) => (⟨x.1, x.2.1, x.2.2.1, x.2.2.2.1, x.2.2.2.2.1⟩ : In)) (fun _ => rfl) (fun _ h => ⟨h.1, h.2.1, h.2.2.1, h.2.2.2.1, h.2.2.2.2.1⟩) (fun _ => rfl)
theorem flat_none {α : Type} : ∀ l : List α, l.flatMap (fun _ => ([] : List Chunk)) = []
 | [] => rfl
 | _ :: l => by rw [List.flatMap_cons, flat_none l]; rfl
end
end
section
structure Bt where
 mk ::
 (ia : Option Addr) (ica : Nat) (ic : List In) (data : Int) (ca : Option Addr) (cca : Nat) (code : List In) (mem : Int)
def btV (b : Bt) : List Value := [.slice b.ia b.ic.length b.ica, .int .i64 b.data, .slice b.ca b.code.length b.cca, .int .i64 b.mem]
def btS (b : Bt) : List Chunk := [rng b.ia (insC b.ic), rng b.ca (insC b.code)]
section
variable {H : Type} {enc : TypeId × Value → H} {w : World} {base : Nat} {spare : Nat → Bool} {held : Bool}
theorem decBt : DecW enc Tryz.prog w base spare held 28 btV (fun b => b.ic.length ≤ maxLen ∧ b.code.length ≤ maxLen) btS :=
 (decW_struct Tryz.underlying28 (sz := 4) (by kernel_rfl)
  (decFW_cons (k := 2) (sz := 2) rfl (by kernel_rfl) (decW_struct Tryz.underlying26 (sz := 2) (by kernel_rfl)
   (decFW_cons (k := 1) (sz := 1) rfl (by kernel_rfl) (decW_slice (sz := 5) (bz := 40) Tryz.underlying24 (by kernel_rfl) (by kernel_rfl) (by decide) (fun _ => rfl) decI)
   (decFW_cons (k := 1) (sz := 0) rfl (by kernel_rfl) (decW_of (dec_int Tryz.underlying3)) decFW_nil)))
  (decFW_cons (k := 1) (sz := 1) rfl (by kernel_rfl) (decW_slice (sz := 5) (bz := 40) Tryz.underlying24 (by kernel_rfl) (by kernel_rfl) (by decide) (fun _ => rfl) decI)
  (decFW_cons (k := 1) (sz := 0) rfl (by kernel_rfl) (decW_of (dec_int Tryz.underlying3)) decFW_nil)))).iso
  (fun (x : ((Option Addr × Nat × List In) × Int × Unit) × (Option Addr × Nat × List In) × Int × Unit) =>
   (⟨x.1.1.1, x.1.1.2.1, x.1.1.2.2, x.1.2.1, x.2.1.1, x.2.1.2.1, x.2.1.2.2, x.2.2.1⟩ : Bt))
  (fun _ => rfl) (fun x h => by
   obtain ⟨⟨⟨⟨h1, h1', _⟩, _⟩, _⟩, ⟨⟨h2, h2', _⟩, _⟩, _⟩ := h
   exact ⟨Nat.le_trans h1 h1', Nat.le_trans h2 h2'⟩)
  (fun x => by
   obtain ⟨⟨⟨a1, a2, a3⟩, d, _⟩, ⟨b1, b2, b3⟩, m, _⟩ := x
   simp only [flat_none, List.nil_append, List.append_nil, List.cons_append, btS]
   rfl)
end
theorem brunC (b : Bt) (ia : Option Addr) (ic : Nat) (inp : List Int) (fuel : Int) (hf : fuel ≤ 9223372036854775807) (hil : inp.length ≤ 1000000) : FnC Tryz.prog 18 [.agg #[.slice b.ia b.ic.length b.ica, .int .i64 b.data, .slice b.ca b.code.length b.cca, .int .i64 b.mem], .slice ia inp.length ic, .int .i64 fuel] [] [rng b.ia (insC b.ic), rng ia (i64C inp)] (fun z => resG (seqQ b.ic b.mem inp fuel) z) (fun z => resH (seqQ b.ic b.mem inp fuel) z) (fun _ => True) := by
 have h1 := runC b.ia b.ica b.ic b.mem ia ic inp fuel hf hil
 generalize seqQ b.ic b.mem inp fuel = r at *
 unfold resG resH at *
 refine fn_intro Tryz.func18 Tryz.ntmps18 rfl rfl rfl (fun w0 => ?_)
 refine rrs ?_
 intro b1 _
 refine rr ?_
 intro b2 _
 refine rr ?_
 refine cl (h1) ?_
 intro z _
 refine rrs ?_
 exact en z trivial
theorem bpipC (b : Bt) (ia : Option Addr) (ic : Nat) (inp : List Int) (fuel : Int) (hf : fuel ≤ 100000000) (hil : inp.length ≤ 1000000) : FnC Tryz.prog 22 [.agg #[.slice b.ia b.ic.length b.ica, .int .i64 b.data, .slice b.ca b.code.length b.cca, .int .i64 b.mem], .slice ia inp.length ic, .int .i64 fuel] [] [rng b.ca (insC b.code), rng ia (i64C inp)] (fun z => resG (pipQ b.code b.mem inp fuel) z) (fun z => resH (pipQ b.code b.mem inp fuel) z) (fun _ => True) := by
 have h1 := pipC b.ca b.cca b.code b.mem ia ic inp fuel hf hil
 generalize pipQ b.code b.mem inp fuel = r at *
 unfold resG resH at *
 refine fn_intro Tryz.func22 Tryz.ntmps22 rfl rfl rfl (fun w0 => ?_)
 refine rrs ?_
 intro b1 _
 refine rr ?_
 intro b2 _
 refine rr ?_
 refine cl (h1) ?_
 intro z _
 refine rrs ?_
 exact en z trivial
end
end Go.Proofs.YtkolmklfgbimoaaGreatDoor
namespace Go.Proofs.YtkolmklfgbimoaaGreatDoor
open Go
section
set_option maxRecDepth 512
def i64V (n : Int) : List Value := [.int .i64 n]
end
end Go.Proofs.YtkolmklfgbimoaaGreatDoor
namespace Go.Proofs.YtkolmklfgbimoaaGreatDoor
open Go Go.Sx Go.Sx.Chunk
theorem i64_flat : ∀ l : List Int, l.flatMap i64V = i64C l
 | [] => rfl
 | a :: l => by rw [List.flatMap_cons, i64_flat l]; rfl
theorem rowMax {w0 w : World} {M : Nat → Prop} {H : List Chunk} {ao : Option Addr} {cap e sz len : Nat} {xs : List Value} (hw : St w0 M w (row ao cap e sz len xs :: H)) : len ≤ maxLen := by
 have hok : w.ownsRow 0 e sz (.slice ao len cap) len xs := hw.head
 rcases hok.2 with ⟨_, hz⟩ | ⟨g, c', cur, hv, _, _, hle, hm, _⟩
 ·omega
 ·omega
theorem equal07C (r : Int × Int × List Int × List Int) (z y : Option Addr × Nat × Option Addr × Nat) (h1 : r.2.2.1.length ≤ maxLen) (h2 : r.2.2.2.length ≤ maxLen) : FnC (α := Unit) Tryz.prog 25 [resG r z, resG r y] [] [rng z.1 (i64C r.2.2.1), rng z.2.2.1 (i64C r.2.2.2), rng y.1 (i64C r.2.2.1), rng y.2.2.1 (i64C r.2.2.2)] (fun _ => .bool true) (fun _ => []) (fun _ => True) := by
 obtain ⟨t, n, L, U⟩ := r
 obtain ⟨z1, z2, z3, z4⟩ := z
 obtain ⟨y1, y2, y3, y4⟩ := y
 dsimp only at h1 h2 ⊢
 have hlen := i64C_len L
 have hlen2 := i64C_len U
 have ht : (t != t) = false := by simp
 have hn : (n != n) = false := by simp
 unfold maxLen at h1 h2
 unfold resG
 refine fn_intro Tryz.func25 Tryz.ntmps25 rfl rfl rfl (fun w0 => ?_)
 refine rrs ?_
 intro b2 _
 refine rr ?_
 intro b3 _
 refine rr ?_
 refine lo [2, 3] (fun k : Nat => [(5, .int .i64 (k : Int))]) (fun k => []) (fun k => k ≤ L.length) (fun k => L.length - k) 0 (Nat.zero_le _) ?_
 intro k hk K1 hK1
 dsimp only at hk ⊢
 by_cases hlt : k < L.length
 ·obtain ⟨v, hvk⟩ := some_at hlt
  have hget : (i64C L)[(k : Int).toNat * 1]? = some (.int .i64 v) := by rw [show (k : Int).toNat * 1 = k by omega]; exact i64C_get hvk
  refine w_use (fun w hw => (hw.pick 2 rfl).rng_some (by omega)) ?_
  rintro ⟨g1, rfl⟩
  refine w_use (fun w hw => (hw.pick 4 rfl).rng_some (by omega)) ?_
  rintro ⟨g2, rfl⟩
  have hv : (v != v) = false := by simp
  refine rr ?_
  refine dr [0, 1, 2, 3, 4, 5, 6, 7, 8, 9, 10] [1, 4, 6, 9] [0, 1, 2, 3, 4, 5] ?_
  refine rr ?_
  exact ro hK1 (k + 1) (by omega)
 ·obtain rfl : k = L.length := by omega
  refine rr ?_
  refine lo [2, 3] (fun k : Nat => [(6, .int .i64 (k : Int))]) (fun k => []) (fun k => k ≤ U.length) (fun k => U.length - k) 0 (Nat.zero_le _) ?_
  intro k hk K2 hK2
  dsimp only at hk ⊢
  by_cases hlt2 : k < U.length
  ·obtain ⟨v, hvk⟩ := some_at hlt2
   have hget : (i64C U)[(k : Int).toNat * 1]? = some (.int .i64 v) := by rw [show (k : Int).toNat * 1 = k by omega]; exact i64C_get hvk
   refine w_use (fun w hw => (hw.pick 3 rfl).rng_some (by omega)) ?_
   rintro ⟨g1, rfl⟩
   refine w_use (fun w hw => (hw.pick 5 rfl).rng_some (by omega)) ?_
   rintro ⟨g2, rfl⟩
   refine rr ?_
   refine dr [0, 1, 2, 3, 4, 5, 6, 7, 8, 9, 10] [1, 4, 6, 9] [0, 1, 2, 3, 4, 5] ?_
   refine rr ?_
   exact ro hK2 (k + 1) (by omega)
  ·obtain rfl : k = U.length := by omega
   refine rr ?_
   exact en () trivial
end Go.Proofs.YtkolmklfgbimoaaGreatDoor
namespace Go.Sx
open Go Chunk
section
set_option maxRecDepth 512
section
variable {P : Program} {n : Cx} {E : Env} {w0 : World} {M : Nat → Prop} {H : List Chunk} {Q : Exit → Act → World → Prop} {S : World → Prop} {ls : List Nat} {fuel : Nat} {listed : Array Bool} {l : List Oper} {w : World} {Hk : List Chunk}
theorem xa_three {i j k : Nat} (hr : (Region.ready .any l.toArray listed == [i, j, k]) = true) (h1 : XP P l n Q S ls E i fuel listed w) (h2 : XP P l n Q S ls E j fuel listed w) (h3 : XP P l n Q S ls E k fuel listed w) : XA P l n Q S ls E (fuel + 1) listed w := by
 refine ⟨fun q hcl a ha => ?_⟩
 have hr' : Region.ready .any l.toArray listed = [i, j, k] := by simpa using hr
 refine ⟨fun h0 => (by rw [hr'] at h0; cases h0), fun k hk => ?_⟩
 have hcs := closed_set hcl hk
 rw [hr'] at hk
 simp only [List.mem_cons, List.not_mem_nil, or_false] at hk
 rcases hk with rfl | rfl | rfl
 ·exact h1.run q hcs a ha
 ·exact h2.run q hcs a ha
 ·exact h3.run q hcs a ha
theorem wa_three {o : List Nat} {i j k : Nat} (ordi ordj ordk : List Nat) (hr : (Region.ready .any l.toArray listed == [i, j, k]) = true) (h1 : WS w0 M H Hk (XOP P l n Q S ls E ordi i fuel listed)) (h2 : WS w0 M H Hk (XOP P l n Q S ls E ordj j fuel listed)) (h3 : WS w0 M H Hk (XOP P l n Q S ls E ordk k fuel listed)) :
  WS w0 M H Hk (XO P l n Q S ls E o (fuel + 1) listed) := fun w hw hs => ⟨xa_three hr (h1 w hw hs).run (h2 w hw hs).run (h3 w hw hs).run⟩
theorem w_cutJ {γ : Type} {x y : Code} (F : γ → Env) (Hv : γ → List Chunk) (rest : ∀ g, Wd w0 M (Hv g) (XC P n Q (F g) y)) (h : ∀ K : Act → World → Prop, (∀ g E', EnvSub E' (F g) → Wd w0 M (Hv g) (fun w => ∀ a, EnvOk a E' n → K a w)) → Wd w0 M H (XC P n (Exit.then K Q) E x)) : Wd w0 M H (XC P n (Exit.then (seqK P n.ro y Q) Q) E x) :=
 fun w hw => ⟨fun q a ha => (h (seqK P n.ro y Q) (fun g E' hs w hw a ha => ⟨⟨q.panic, q.out⟩, (rest g w hw).run ⟨q.panic, q.out⟩ a (ha.sub hs)⟩) w hw).run q a ha⟩
theorem w_joinJ {γ : Type} {F : γ → Env} {Hv : γ → List Chunk} {K : Act → World → Prop} {R : List Chunk} (hK : ∀ g E', EnvSub E' (F g) → Wd w0 M (Hv g) (fun w => ∀ a, EnvOk a E' n → K a w)) (g : γ) (hp : Has H (Hv g) R) (hE : EnvSub E (F g)) : Wd w0 M H (XQ n (Exit.then K Q) .normal E) :=
 w_hasA hp (fun w hw => ⟨fun q a ha => hK g E hE w hw a ha⟩)
end
end
end Go.Sx
namespace Go.Proofs.YtkolmklfgbimoaaGreatDoor
open Go Go.Sx Go.Sx.Chunk
section
section
variable {n : Cx} {E : Env} {w0 : World} {M : Nat → Prop} {H : List Chunk} {Q : Exit → Act → World → Prop} {l : List Oper}
theorem th {Hk : List Chunk} {ls o : List Nat} {fuel i j k : Nat} {listed : Array Bool} {S : World → Prop} (ordi ordj ordk : List Nat) (h1 : WS w0 M H Hk (XOP Tryz.prog l n Q S ls E ordi i fuel listed)) (h2 : WS w0 M H Hk (XOP Tryz.prog l n Q S ls E ordj j fuel listed)) (h3 : WS w0 M H Hk (XOP Tryz.prog l n Q S ls E ordk k fuel listed)) (hr : (Region.ready .any l.toArray listed == [i, j, k]) = true := by kernel_rfl) :
  WS w0 M H Hk (XO Tryz.prog l n Q S ls E o (fuel + 1) listed) := wa_three ordi ordj ordk hr h1 h2 h3
end
theorem runs_law (b : Bt) (ja : Option Addr) (jc : Nat) (inp : List Int) (fuel : Int) (hb : b.ic.length ≤ maxLen ∧ b.code.length ≤ maxLen) (hi : inp.length ≤ maxLen) : FnC (α := Unit) Tryz.prog 6 [.agg #[.slice b.ia b.ic.length b.ica, .int .i64 b.data, .slice b.ca b.code.length b.cca, .int .i64 b.mem], .slice ja inp.length jc, .int .i64 fuel] [] [rng b.ia (insC b.ic), rng b.ca (insC b.code), rng ja (i64C inp), Cm.spaceV] (fun _ => .bool true) (fun _ => []) (fun _ => True) := by
 have haw := awake20C
 obtain ⟨hb1, hb2⟩ := hb
 unfold maxLen at hb1 hb2 hi
 by_cases h1 : (b.ic.length : Int) > 200
 ·skip
  refine fn_intro Tryz.func6 Tryz.ntmps6 rfl rfl rfl (fun w0 => ?_)
  refine rrs ?_
  intro b3 _
  refine rr ?_
  refine cl (haw) ?_
  intro _ _
  refine rrs ?_
  exact en () trivial
 by_cases h2 : (b.code.length : Int) > 400
 ·skip
  refine fn_intro Tryz.func6 Tryz.ntmps6 rfl rfl rfl (fun w0 => ?_)
  refine rrs ?_
  intro b3 _
  refine rr ?_
  refine cl (haw) ?_
  intro _ _
  refine rrs ?_
  exact en () trivial
 by_cases h3 : b.mem > 400 ∧ b.mem ≤ 32000
 ·obtain ⟨h3a, h3b⟩ := h3
  refine fn_intro Tryz.func6 Tryz.ntmps6 rfl rfl rfl (fun w0 => ?_)
  refine rrs ?_
  intro b3 _
  refine rr ?_
  refine cl (haw) ?_
  intro _ _
  refine rrs ?_
  exact en () trivial
 have h3c : ¬ b.mem > 400 ∨ (b.mem > 400 ∧ ¬ b.mem ≤ 32000) := by omega
 by_cases h4 : (inp.length : Int) > 100
 ·rcases h3c with h3 | ⟨h3, h3b⟩
  all_goals
   refine fn_intro Tryz.func6 Tryz.ntmps6 rfl rfl rfl (fun w0 => ?_)
   refine rrs ?_
   intro b3 _
   refine rr ?_
   refine cl (haw) ?_
   intro _ _
   refine rrs ?_
   exact en () trivial
 by_cases h5 : fuel > 2000
 ·rcases h3c with h3 | ⟨h3, h3b⟩
  all_goals
   refine fn_intro Tryz.func6 Tryz.ntmps6 rfl rfl rfl (fun w0 => ?_)
   refine rrs ?_
   intro b3 _
   refine rr ?_
   refine cl (haw) ?_
   intro _ _
   refine rrs ?_
   exact en () trivial
 have hr1 := brunC b ja jc inp fuel (by omega) (by omega)
 have hr2 := bpipC b ja jc inp fuel (by omega) (by omega)
 have hr3 := runC b.ia b.ica b.ic b.mem ja jc inp fuel (by omega) (by omega)
 have hr4 := pipC b.ca b.cca b.code b.mem ja jc inp fuel (by omega) (by omega)
 generalize seqQ b.ic b.mem inp fuel = r at *
 generalize pipQ b.code b.mem inp fuel = q at *
 have heq1 := equal07C r
 have heq2 := equal07C q
 unfold resG resH at *
 rcases h3c with h3 | ⟨h3, h3b⟩
 all_goals
  refine fn_intro Tryz.func6 Tryz.ntmps6 rfl rfl rfl (fun w0 => ?_)
  refine rrs ?_
  intro b3 _
  refine rr ?_
  refine w_cutJ (γ := (Nat × Nat) × (Option Addr × Nat × Option Addr × Nat) × (Option Addr × Nat × Option Addr × Nat)) (fun g => [(7, .pointer (some ⟨g.1.1, 0, none⟩)), (8, .pointer (some ⟨g.1.2, 0, none⟩)), (1, .slice ja inp.length jc), (2, .int .i64 fuel), (3, .pointer (some ⟨b3, 0, none⟩))]) (fun g => [blk g.1.1 [.int .i64 r.1, .int .i64 r.2.1, .slice g.2.1.1 r.2.2.1.length g.2.1.2.1, .slice g.2.1.2.2.1 r.2.2.2.length g.2.1.2.2.2] 54, row g.2.1.1 g.2.1.2.1 3 1 r.2.2.1.length (i64C r.2.2.1), row g.2.1.2.2.1 g.2.1.2.2.2 3 1 r.2.2.2.length (i64C r.2.2.2), blk g.1.2 [.int .i64 q.1, .int .i64 q.2.1, .slice g.2.2.1 q.2.2.1.length g.2.2.2.1, .slice g.2.2.2.2.1 q.2.2.2.length g.2.2.2.2.2] 54, row g.2.2.1 g.2.2.2.1 3 1 q.2.2.1.length (i64C q.2.2.1), row g.2.2.2.2.1 g.2.2.2.2.2 3 1 q.2.2.2.length (i64C q.2.2.2), blk b3 [.slice b.ia b.ic.length b.ica, .int .i64 b.data, .slice b.ca b.code.length b.cca, .int .i64 b.mem] 28, rng b.ia (insC b.ic), rng b.ca (insC b.code), rng ja (i64C inp), Cm.spaceV]) ?_ ?_
  rotate_left
  ·intro K hK
   refine dr [0, 1, 2, 4, 5, 6, 99] [0, 4] [0] ?_
   refine rr ?_
   refine th (i := 3) (j := 8) (k := 9) [99] [99] [99] ?_ ?_ ?_
   ·refine clp (hr1) ?_
    intro z1 _
    try simp only [Sx.ap1, Sx.ap2, Sx.ap3]
    refine th (i := 7) (j := 8) (k := 9) [99] [99] [99] ?_ ?_ ?_
    ·refine clp (hr2) ?_
     intro z2 _
     try simp only [Sx.ap1, Sx.ap2, Sx.ap3]
     refine tw (i := 8) (j := 9) [9, 10, 11] [8, 10, 11] ?_ ?_
     ·refine rr ?_
      intro b7 _
      refine rr ?_
      intro b8 _
      refine rr ?_
      exact w_joinJ hK ((b7, b8), z1, z2) (by (repeat (first | exact Has.nil | (apply Has.cons; focus ((repeat (first | exact pick_here | apply pick_there)); done)) | apply Has.nrow | apply Has.gen0))) (by repeat (first | exact env_nil | (apply env_cons; exact rfl)))
     ·refine rr ?_
      intro b8 _
      refine rr ?_
      intro b7 _
      refine rr ?_
      exact w_joinJ hK ((b7, b8), z1, z2) (by (repeat (first | exact Has.nil | (apply Has.cons; focus ((repeat (first | exact pick_here | apply pick_there)); done)) | apply Has.nrow | apply Has.gen0))) (by repeat (first | exact env_nil | (apply env_cons; exact rfl)))
    ·refine rr ?_
     intro b7 _
     refine tw (i := 7) (j := 9) [9, 10, 11] [7, 10, 11] ?_ ?_
     ·refine clp (hr2) ?_
      intro z2 _
      refine rrs ?_
      intro b8 _
      refine rr ?_
      exact w_joinJ hK ((b7, b8), z1, z2) (by (repeat (first | exact Has.nil | (apply Has.cons; focus ((repeat (first | exact pick_here | apply pick_there)); done)) | apply Has.nrow | apply Has.gen0))) (by repeat (first | exact env_nil | (apply env_cons; exact rfl)))
     ·refine rr ?_
      intro b8 _
      refine rr ?_
      refine cld (hr2) ?_
      intro z2 _
      refine rrs ?_
      exact w_joinJ hK ((b7, b8), z1, z2) (by (repeat (first | exact Has.nil | (apply Has.cons; focus ((repeat (first | exact pick_here | apply pick_there)); done)) | apply Has.nrow | apply Has.gen0))) (by repeat (first | exact env_nil | (apply env_cons; exact rfl)))
    ·refine rr ?_
     intro b8 _
     refine tw (i := 7) (j := 8) [8, 10, 11] [7, 10, 11] ?_ ?_
     ·refine clp (hr2) ?_
      intro z2 _
      refine rrs ?_
      intro b7 _
      refine rr ?_
      exact w_joinJ hK ((b7, b8), z1, z2) (by (repeat (first | exact Has.nil | (apply Has.cons; focus ((repeat (first | exact pick_here | apply pick_there)); done)) | apply Has.nrow | apply Has.gen0))) (by repeat (first | exact env_nil | (apply env_cons; exact rfl)))
     ·refine rr ?_
      intro b7 _
      refine rr ?_
      refine cld (hr2) ?_
      intro z2 _
      refine rrs ?_
      exact w_joinJ hK ((b7, b8), z1, z2) (by (repeat (first | exact Has.nil | (apply Has.cons; focus ((repeat (first | exact pick_here | apply pick_there)); done)) | apply Has.nrow | apply Has.gen0))) (by repeat (first | exact env_nil | (apply env_cons; exact rfl)))
   ·refine rr ?_
    intro b7 _
    refine tw (i := 3) (j := 9) [99] [3, 7, 10, 11] ?_ ?_
    ·refine clp (hr1) ?_
     intro z1 _
     try simp only [Sx.ap1, Sx.ap2, Sx.ap3]
     refine tw (i := 7) (j := 9) [9, 10, 11] [7, 10, 11] ?_ ?_
     ·refine clp (hr2) ?_
      intro z2 _
      refine rrs ?_
      intro b8 _
      refine rr ?_
      exact w_joinJ hK ((b7, b8), z1, z2) (by (repeat (first | exact Has.nil | (apply Has.cons; focus ((repeat (first | exact pick_here | apply pick_there)); done)) | apply Has.nrow | apply Has.gen0))) (by repeat (first | exact env_nil | (apply env_cons; exact rfl)))
     ·refine rr ?_
      intro b8 _
      refine rr ?_
      refine cld (hr2) ?_
      intro z2 _
      refine rrs ?_
      exact w_joinJ hK ((b7, b8), z1, z2) (by (repeat (first | exact Has.nil | (apply Has.cons; focus ((repeat (first | exact pick_here | apply pick_there)); done)) | apply Has.nrow | apply Has.gen0))) (by repeat (first | exact env_nil | (apply env_cons; exact rfl)))
    ·refine rr ?_
     intro b8 _
     refine rr ?_
     refine cld (hr1) ?_
     intro z1 _
     refine rrs ?_
     refine cld (hr2) ?_
     intro z2 _
     refine rrs ?_
     exact w_joinJ hK ((b7, b8), z1, z2) (by (repeat (first | exact Has.nil | (apply Has.cons; focus ((repeat (first | exact pick_here | apply pick_there)); done)) | apply Has.nrow | apply Has.gen0))) (by repeat (first | exact env_nil | (apply env_cons; exact rfl)))
   ·refine rr ?_
    intro b8 _
    refine tw (i := 3) (j := 8) [99] [3, 7, 10, 11] ?_ ?_
    ·refine clp (hr1) ?_
     intro z1 _
     try simp only [Sx.ap1, Sx.ap2, Sx.ap3]
     refine tw (i := 7) (j := 8) [8, 10, 11] [7, 10, 11] ?_ ?_
     ·refine clp (hr2) ?_
      intro z2 _
      refine rrs ?_
      intro b7 _
      refine rr ?_
      exact w_joinJ hK ((b7, b8), z1, z2) (by (repeat (first | exact Has.nil | (apply Has.cons; focus ((repeat (first | exact pick_here | apply pick_there)); done)) | apply Has.nrow | apply Has.gen0))) (by repeat (first | exact env_nil | (apply env_cons; exact rfl)))
     ·refine rr ?_
      intro b7 _
      refine rr ?_
      refine cld (hr2) ?_
      intro z2 _
      refine rrs ?_
      exact w_joinJ hK ((b7, b8), z1, z2) (by (repeat (first | exact Has.nil | (apply Has.cons; focus ((repeat (first | exact pick_here | apply pick_there)); done)) | apply Has.nrow | apply Has.gen0))) (by repeat (first | exact env_nil | (apply env_cons; exact rfl)))
    ·refine rr ?_
     intro b7 _
     refine rr ?_
     refine cld (hr1) ?_
     intro z1 _
     refine rrs ?_
     refine cld (hr2) ?_
     intro z2 _
     refine rrs ?_
     exact w_joinJ hK ((b7, b8), z1, z2) (by (repeat (first | exact Has.nil | (apply Has.cons; focus ((repeat (first | exact pick_here | apply pick_there)); done)) | apply Has.nrow | apply Has.gen0))) (by repeat (first | exact env_nil | (apply env_cons; exact rfl)))
  ·rintro ⟨⟨b7, b8⟩, z1, z2⟩
   dsimp only
   refine rr ?_
   refine w_cutJ (γ := (Nat × Nat) × (Option Addr × Nat × Option Addr × Nat) × (Option Addr × Nat × Option Addr × Nat)) (fun g => [(9, .pointer (some ⟨g.1.1, 0, none⟩)), (10, .pointer (some ⟨g.1.2, 0, none⟩)), (7, .pointer (some ⟨b7, 0, none⟩)), (8, .pointer (some ⟨b8, 0, none⟩))]) (fun g => [blk g.1.1 [.int .i64 r.1, .int .i64 r.2.1, .slice g.2.1.1 r.2.2.1.length g.2.1.2.1, .slice g.2.1.2.2.1 r.2.2.2.length g.2.1.2.2.2] 54, row g.2.1.1 g.2.1.2.1 3 1 r.2.2.1.length (i64C r.2.2.1), row g.2.1.2.2.1 g.2.1.2.2.2 3 1 r.2.2.2.length (i64C r.2.2.2), blk g.1.2 [.int .i64 q.1, .int .i64 q.2.1, .slice g.2.2.1 q.2.2.1.length g.2.2.2.1, .slice g.2.2.2.2.1 q.2.2.2.length g.2.2.2.2.2] 54, row g.2.2.1 g.2.2.2.1 3 1 q.2.2.1.length (i64C q.2.2.1), row g.2.2.2.2.1 g.2.2.2.2.2 3 1 q.2.2.2.length (i64C q.2.2.2), blk b7 [.int .i64 r.1, .int .i64 r.2.1, .slice z1.1 r.2.2.1.length z1.2.1, .slice z1.2.2.1 r.2.2.2.length z1.2.2.2] 54, row z1.1 z1.2.1 3 1 r.2.2.1.length (i64C r.2.2.1), row z1.2.2.1 z1.2.2.2 3 1 r.2.2.2.length (i64C r.2.2.2), blk b8 [.int .i64 q.1, .int .i64 q.2.1, .slice z2.1 q.2.2.1.length z2.2.1, .slice z2.2.2.1 q.2.2.2.length z2.2.2.2] 54, row z2.1 z2.2.1 3 1 q.2.2.1.length (i64C q.2.2.1), row z2.2.2.1 z2.2.2.2 3 1 q.2.2.2.length (i64C q.2.2.2), blk b3 [.slice b.ia b.ic.length b.ica, .int .i64 b.data, .slice b.ca b.code.length b.cca, .int .i64 b.mem] 28, rng b.ia (insC b.ic), rng b.ca (insC b.code), rng ja (i64C inp), Cm.spaceV]) ?_ ?_
   rotate_left
   ·intro K hK
    refine dr [0, 1, 2, 3, 4, 5, 6, 8, 9, 10, 11, 12, 13, 99] [2, 4, 9, 11] [6] ?_
    refine rr ?_
    refine th (i := 7) (j := 15) (k := 16) [99] [99] [99] ?_ ?_ ?_
    ·refine clp (hr3) ?_
     intro z3 _
     try simp only [Sx.ap1, Sx.ap2, Sx.ap3]
     refine th (i := 14) (j := 15) (k := 16) [99] [99] [99] ?_ ?_ ?_
     ·refine clp (hr4) ?_
      intro z4 _
      try simp only [Sx.ap1, Sx.ap2, Sx.ap3]
      refine tw (i := 15) (j := 16) [16, 17, 18] [15, 17, 18] ?_ ?_
      ·refine rr ?_
       intro b9 _
       refine rr ?_
       intro b10 _
       refine rr ?_
       exact w_joinJ hK ((b9, b10), z3, z4) (by (repeat (first | exact Has.nil | (apply Has.cons; focus ((repeat (first | exact pick_here | apply pick_there)); done)) | apply Has.nrow | apply Has.gen0))) (by repeat (first | exact env_nil | (apply env_cons; exact rfl)))
      ·refine rr ?_
       intro b10 _
       refine rr ?_
       intro b9 _
       refine rr ?_
       exact w_joinJ hK ((b9, b10), z3, z4) (by (repeat (first | exact Has.nil | (apply Has.cons; focus ((repeat (first | exact pick_here | apply pick_there)); done)) | apply Has.nrow | apply Has.gen0))) (by repeat (first | exact env_nil | (apply env_cons; exact rfl)))
     ·refine rr ?_
      intro b9 _
      refine tw (i := 14) (j := 16) [16, 17, 18] [14, 17, 18] ?_ ?_
      ·refine clp (hr4) ?_
       intro z4 _
       refine rrs ?_
       intro b10 _
       refine rr ?_
       exact w_joinJ hK ((b9, b10), z3, z4) (by (repeat (first | exact Has.nil | (apply Has.cons; focus ((repeat (first | exact pick_here | apply pick_there)); done)) | apply Has.nrow | apply Has.gen0))) (by repeat (first | exact env_nil | (apply env_cons; exact rfl)))
      ·refine rr ?_
       intro b10 _
       refine rr ?_
       refine cld (hr4) ?_
       intro z4 _
       refine rrs ?_
       exact w_joinJ hK ((b9, b10), z3, z4) (by (repeat (first | exact Has.nil | (apply Has.cons; focus ((repeat (first | exact pick_here | apply pick_there)); done)) | apply Has.nrow | apply Has.gen0))) (by repeat (first | exact env_nil | (apply env_cons; exact rfl)))
     ·refine rr ?_
      intro b10 _
      refine tw (i := 14) (j := 15) [15, 17, 18] [14, 17, 18] ?_ ?_
      ·refine clp (hr4) ?_
       intro z4 _
       refine rrs ?_
       intro b9 _
       refine rr ?_
       exact w_joinJ hK ((b9, b10), z3, z4) (by (repeat (first | exact Has.nil | (apply Has.cons; focus ((repeat (first | exact pick_here | apply pick_there)); done)) | apply Has.nrow | apply Has.gen0))) (by repeat (first | exact env_nil | (apply env_cons; exact rfl)))
      ·refine rr ?_
       intro b9 _
       refine rr ?_
       refine cld (hr4) ?_
       intro z4 _
       refine rrs ?_
       exact w_joinJ hK ((b9, b10), z3, z4) (by (repeat (first | exact Has.nil | (apply Has.cons; focus ((repeat (first | exact pick_here | apply pick_there)); done)) | apply Has.nrow | apply Has.gen0))) (by repeat (first | exact env_nil | (apply env_cons; exact rfl)))
    ·refine rr ?_
     intro b9 _
     refine tw (i := 7) (j := 16) [99] [7, 14, 17, 18] ?_ ?_
     ·refine clp (hr3) ?_
      intro z3 _
      try simp only [Sx.ap1, Sx.ap2, Sx.ap3]
      refine tw (i := 14) (j := 16) [16, 17, 18] [14, 17, 18] ?_ ?_
      ·refine clp (hr4) ?_
       intro z4 _
       refine rrs ?_
       intro b10 _
       refine rr ?_
       exact w_joinJ hK ((b9, b10), z3, z4) (by (repeat (first | exact Has.nil | (apply Has.cons; focus ((repeat (first | exact pick_here | apply pick_there)); done)) | apply Has.nrow | apply Has.gen0))) (by repeat (first | exact env_nil | (apply env_cons; exact rfl)))
      ·refine rr ?_
       intro b10 _
       refine rr ?_
       refine cld (hr4) ?_
       intro z4 _
       refine rrs ?_
       exact w_joinJ hK ((b9, b10), z3, z4) (by (repeat (first | exact Has.nil | (apply Has.cons; focus ((repeat (first | exact pick_here | apply pick_there)); done)) | apply Has.nrow | apply Has.gen0))) (by repeat (first | exact env_nil | (apply env_cons; exact rfl)))
     ·refine rr ?_
      intro b10 _
      refine rr ?_
      refine cld (hr3) ?_
      intro z3 _
      refine rrs ?_
      refine cld (hr4) ?_
      intro z4 _
      refine rrs ?_
      exact w_joinJ hK ((b9, b10), z3, z4) (by (repeat (first | exact Has.nil | (apply Has.cons; focus ((repeat (first | exact pick_here | apply pick_there)); done)) | apply Has.nrow | apply Has.gen0))) (by repeat (first | exact env_nil | (apply env_cons; exact rfl)))
    ·refine rr ?_
     intro b10 _
     refine tw (i := 7) (j := 15) [99] [7, 14, 17, 18] ?_ ?_
     ·refine clp (hr3) ?_
      intro z3 _
      try simp only [Sx.ap1, Sx.ap2, Sx.ap3]
      refine tw (i := 14) (j := 15) [15, 17, 18] [14, 17, 18] ?_ ?_
      ·refine clp (hr4) ?_
       intro z4 _
       refine rrs ?_
       intro b9 _
       refine rr ?_
       exact w_joinJ hK ((b9, b10), z3, z4) (by (repeat (first | exact Has.nil | (apply Has.cons; focus ((repeat (first | exact pick_here | apply pick_there)); done)) | apply Has.nrow | apply Has.gen0))) (by repeat (first | exact env_nil | (apply env_cons; exact rfl)))
      ·refine rr ?_
       intro b9 _
       refine rr ?_
       refine cld (hr4) ?_
       intro z4 _
       refine rrs ?_
       exact w_joinJ hK ((b9, b10), z3, z4) (by (repeat (first | exact Has.nil | (apply Has.cons; focus ((repeat (first | exact pick_here | apply pick_there)); done)) | apply Has.nrow | apply Has.gen0))) (by repeat (first | exact env_nil | (apply env_cons; exact rfl)))
     ·refine rr ?_
      intro b9 _
      refine rr ?_
      refine cld (hr3) ?_
      intro z3 _
      refine rrs ?_
      refine cld (hr4) ?_
      intro z4 _
      refine rrs ?_
      exact w_joinJ hK ((b9, b10), z3, z4) (by (repeat (first | exact Has.nil | (apply Has.cons; focus ((repeat (first | exact pick_here | apply pick_there)); done)) | apply Has.nrow | apply Has.gen0))) (by repeat (first | exact env_nil | (apply env_cons; exact rfl)))
   ·rintro ⟨⟨b9, b10⟩, z3, z4⟩
    dsimp only
    refine w_use (fun w hw => rowMax (hw.pick 1 rfl)) fun hm1 => ?_
    refine w_use (fun w hw => rowMax (hw.pick 2 rfl)) fun hm2 => ?_
    refine w_use (fun w hw => rowMax (hw.pick 4 rfl)) fun hm3 => ?_
    refine w_use (fun w hw => rowMax (hw.pick 5 rfl)) fun hm4 => ?_
    refine rr ?_
    refine cl (heq1 z1 z3 hm1 hm2) ?_
    intro _ _
    refine rrs ?_
    refine cl (heq2 z2 z4 hm3 hm4) ?_
    intro _ _
    refine rrs ?_
    refine cl (haw) ?_
    intro _ _
    refine rrs ?_
    exact en () trivial
theorem runs_row (b : Bt) (ja : Option Addr) (jc : Nat) (inp : List Int) (fuel : Int) (hb : b.ic.length ≤ maxLen ∧ b.code.length ≤ maxLen) (hi : inp.length ≤ maxLen) : FnC (α := Unit) Tryz.prog 6 [.agg (btV b).toArray, .slice ja inp.length jc, .int .i64 fuel] [] [rng b.ia (insC b.ic), rng b.ca (insC b.code), rng ja (inp.flatMap i64V), Cm.spaceV] (fun _ => .bool true) (fun _ => []) (fun _ => True) := by
 rw [i64_flat]
 exact runs_law b ja jc inp fuel hb hi
end
end Go.Proofs.YtkolmklfgbimoaaGreatDoor
namespace Go.Sx
open Go Chunk
section
set_option maxRecDepth 512
section
variable {H : Type} {enc : TypeId × Value → H}
theorem handed_door {a : Assume} {C : Checked} {os : Os} {f : FuncId} {fn : Func} {s : ChangeSpec} {conds : List PathCond} {apart fresh handsOn again : Bool} {X : World → Array Value → Prop}
  (hX : ∀ (w w' : World) (args : Array Value), w.heap = w'.heap → X w args → X w' args)
  (own : ownKnob C.prog.godebug = none) (started : os.Started) (noInit : C.prog.inits.idxOf? f = none) (hfn : C.prog.funcs[f]? = some fn)
  (witness : ∃ (w : World) (tape : Tape) (i : Input), w.os = os ∧ (w.forCall tape i).Shaped C.prog ∧ i.vars = [] ∧ Input.okWide C.prog (w.forCall tape i) .any w.heap.size f i ∧
   ((s.pre enc C.prog fn conds apart (w.forCall tape i).memory i.args ∧ X (w.forCall tape i).memory i.args) ∧ sizedMet enc C.prog fn (OpenSpec.ofChange s) apart (w.forCall tape i).memory i.args) ∧ a.holds C.prog (lone (Frame.enter C.prog f i.args .normal) [] (w.forCall tape i)))
  (contract : ∀ (W : World) (base : Nat) (args : Array Value) (ds gs : List (DataW H)) (before : List MemPlace),
   (∀ (j : Nat) t v, fn.params[j]? = some t → args[j]? = some v → Value.okWide C.prog W .any base t v) →
   DataW.Whole enc C.prog fn.params.toList s.vars apart W args.toList ds gs before →
   conds.all (PathCond.test C.prog ⟨fn.params.toList, ds, s.plain.varTypes C.prog, gs⟩) = true →
   (DataW.weightsEach C.prog (fn.params.toList ++ s.plain.varTypes C.prog) (ds ++ gs)).all (· ≤ reachBytes) = true → X W args → W.ShapedOpen C.prog →
   a.holds C.prog (lone (Frame.enter C.prog f args .normal) [] W) →
   Calls C.prog f args W fun e W' => ∃ v, e = .returned v ∧ s.post enc C.prog fn apart fresh handsOn again W args v W') :
  ReturnsInHanded a C os f .any (fun w args => (s.pre enc C.prog fn conds apart w args ∧ X w args) ∧ sizedMet enc C.prog fn (OpenSpec.ofChange s) apart w args) (s.post enc C.prog fn apart fresh handsOn again) := by
 refine returnsInHanded_of_calls own started noInit witness ?_
 intro w tape i _ hsh _ hok hpre hholds
 obtain ⟨_, _, _, fn', hfn', _, _, _, _, hval⟩ := hok
 obtain rfl : fn' = fn := Option.some.inj (hfn'.symm.trans hfn)
 obtain ⟨⟨⟨ds, gs, before, hw, hc⟩, hx⟩, hz⟩ := hpre
 have hw' := DataW.Whole.of_heap (w' := w.forCall tape i) (by rfl) hw
 refine (contract (w.forCall tape i) w.heap.size i.args ds gs before hval hw' hc (hz.weights hw) (hX _ _ _ (by rfl) hx) hsh hholds).mono fun e W' ⟨v, he, hp⟩ => ?_
 subst he
 exact ChangeSpec.post_blind hp
end
theorem var_cells {P : Program} {w : World} {n : String} {g : Nat} {cs : Array Value} (hg : P.globalNamed n = some g) (h : w.var? P n = some cs) : ∃ t z, w.heap[g]? = some (.cells cs t z) := by
 unfold World.var? at h
 rw [hg] at h
 simp only [Option.bind_some] at h
 split at h
 ·rename_i c t z hc
  simp only [Option.some.injEq] at h
  subst h
  exact ⟨_, _, hc⟩
 ·cases h
end
end Go.Sx
namespace Go.Proofs.YtkolmklfgbimoaaGreatDoor
open Go Go.Sx Go.Sx.Chunk
def laidL : List (String × DataW Unit) := [("unicode.White_Space", Rows.laid_unicode_White_Space), ("strings.asciiSpace", Rows.laid_strings_asciiSpace)]
theorem spc_eq : (Rows.laid_strings_asciiSpace : DataW Unit) = Lib.tabData .u8 Lib.asciiSpaceTab := by kernel_rfl
theorem glb_seen {w : World} {n : String} {g : Nat} {k : IntKind} {zs : List Int} (hg : Tryz.prog.globalNamed n = some g) (h : Lib.TabIs Tryz.prog w n k zs) : SeenC w (glb g (zs.map fun z => Value.int k z)) := by
 obtain ⟨t, z, hb⟩ := var_cells hg h
 exact ⟨rfl, ⟨t, z, hb⟩, fun j hj => by
  have : j = g := hj
  rw [this]
  exact (Array.getElem?_eq_some_iff.1 hb).1⟩
theorem laid_plain {W : World} (h : laidMetH Tryz.prog laidL W) : laidMet Tryz.prog laidL W := by
 rw [MakeChecks.laidMetH_plain _ _ _ (by kernel_rfl)] at h
 exact h
theorem va_seen {W : World} (hL : laidMetH Tryz.prog laidL W) (hsh : W.ShapedOpen Tryz.prog) : ∃ m ev ev2 : Unit, True ∧ True ∧ Seen W [Cm.spaceV] := by
 have h0 := laid_plain hL
 have h7 := laidMet.tail h0
 rw [spc_eq] at h7
 have t0 := Lib.tabIs_of_head (g := 1) (t := 271) (e := 5) (n := 256) (by kernel_rfl) (by kernel_rfl) (by kernel_rfl) (by kernel_rfl) (by kernel_rfl) (by kernel_rfl) h7
 exact ⟨(), (), (), trivial, trivial, glb_seen (by kernel_rfl) t0, trivial⟩
end Go.Proofs.YtkolmklfgbimoaaGreatDoor

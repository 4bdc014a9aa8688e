/- Texts of the proof, in their order: Cko, Cb1, Cm7, Ckp, Ckq, Ckr, Cks, Ckt. -/
import Derived.Test.YtkolmklfgbimoaaGreatDoorM5
import Derived.Test.YtkolmklfgbimoaaGreatDoorM3
set_option linter.unusedVariables false
set_option linter.unusedSimpArgs false
namespace Go.Proofs.YtkolmklfgbimoaaGreatDoor.Cm
open Go Go.Sx Go.Sx.Chunk
set_option maxRecDepth 100000
variable {TA : Addr} {L : List (Sc.Tk × Nat)}
def thC (l : List Th) : List Value := l.flatMap thV
theorem thC_len (l : List Th) : (thC l).length = l.length * 4 := flat_len (cells := thV) (sz := 4) (fun _ => rfl) l
theorem thC_all {l : List Th} {k : Nat} {e : Th} (h : l[k]? = some e) (n : Nat) (hn : n = k * 4) : ((thC l).drop n).take 4 = thV e := by subst hn; exact flat_get (cells := thV) (sz := 4) (fun _ => rfl) h
theorem thC_snoc (l : List Th) (e : Th) : thC (l ++ [e]) = thC l ++ thV e := by simp [thC]
theorem mDefs_snoc : ∀ (l : List (ByteArray × Th)) (e : ByteArray × Th) (s : CS), mDefs s (l ++ [e]) = mDef (Sc.txt e.1) e.2 (mDefs s l)
 | [], e, s => rfl
 | a :: l, e, s => by simp only [List.cons_append, mDefs]; exact mDefs_snoc l e _
theorem mDefs_app : ∀ (l m : List (ByteArray × Th)) (s : CS), mDefs s (l ++ m) = mDefs (mDefs s l) m
 | [], m, s => rfl
 | a :: l, m, s => by simp only [List.cons_append, mDefs]; exact mDefs_app l m _
def turnE (name : List UInt8) (t : Th) (e : ByteArray × Th) : ByteArray × Th := if e.1 = Sc.bs name then (e.1, t) else e
def gathH (b4 b5 b6 b7 : Nat) (name : List UInt8) (t : Th) (q : List (ByteArray × Th) × (Option Addr × Nat) × (Option Addr × Nat)) : List Chunk := [blk b4 [.string (Sc.bs name)] 9, blk b5 (thV t) 145, blk b6 [.slice q.2.1.1 q.1.length q.2.1.2] 22, row q.2.1.1 q.2.1.2 9 1 q.1.length (strC (q.1.map Prod.fst)), blk b7 [.slice q.2.2.1 q.1.length q.2.2.2] 253, row q.2.2.1 q.2.2.2 145 4 q.1.length (thC (q.1.map Prod.snd))]
set_option maxHeartbeats 8000000 in
theorem redefineC (c : Nat) (s : CS) (x : Ad) (name : List UInt8) (t : Th) (hg : GD s) (hw : wt s + 1 ≤ 1000000000000) (hx : OkX TA L s x) : FnC Tryz.prog 169 [cP c, .string (Sc.bs name), thG t] (cmH c s x) [] (fun _ => .tuple #[]) (fun y : Ad => cmH c (mRedefine name t s) y) (fun y => OkX TA L (mRedefine name t s) y) := by
 have hwn := wt_ents (Int.le_refl (wt s))
 have hwb := wt_begs (Int.le_refl (wt s))
 have hc := fun y hy => closeC (TA := TA) (L := L) c s y (by omega) (by omega) hg.bg hy
 have hi : ∀ {σ τ : Type} (ly b : Nat) (Hb : σ → List Chunk) (Hx : τ → List Chunk) (φ : List (ByteArray × Th) → σ → Prop) (ψ : τ → Prop) (s0 : σ) (hy : _) (hbw : _) (hxw : _) (h0 : _), _ := fun {σ τ} ly b Hb Hx φ ψ s0 hy hbw hxw h0 => namesIC (σ := σ) (τ := τ) ly b c s x (by omega) (by omega) hg.bg Hb Hx φ ψ s0 hy hbw hxw h0
 unfold mRedefine
 have hown : (mOwn s).length ≤ 1000000000000 := by
  unfold mOwn; split
  ·exact Nat.zero_le _
  ·rw [List.length_drop]; omega
 have hnam := namesNC c
 unfold boxN at hi hnam
 unfold seqN at hnam
 try unfold cmH csC at hc
 try unfold cmH at hc
 try unfold cP at hc
 try unfold bP at hc
 try unfold tP at hc
 try unfold inG at hc
 try unfold thG at hc
 try unfold clo at hc
 try unfold cmH csC at ⊢
 try unfold cmH at ⊢
 try unfold cP at ⊢
 try unfold bP at ⊢
 try unfold tP at ⊢
 try unfold inG at ⊢
 try unfold thG at ⊢
 try unfold clo at ⊢
 unfold cmH csC at hi
 unfold tP at hi hnam
 refine fn_introM Tryz.func169 Tryz.ntmps169 rfl rfl rfl (fun w0 => ?_)
 try simp only [Sx.ap1, Sx.ap2, Sx.ap3]
 refine rr ?_
 intro b4 _
 refine rr ?_
 intro b5 _
 refine rr ?_
 intro b6 _
 refine rr ?_
 intro b7 _
 refine rr ?_
 refine cl (hnam) ?_
 intro b _
 try simp only [Sx.ap1, Sx.ap2, Sx.ap3]
 refine rr ?_
 refine hv ([blk b [.pointer (some ⟨c, 5, none⟩)] 198] ++ cmH c s x ++ gathH b4 b5 b6 b7 name t ([], (none, 0), (none, 0))) ?_ (hp := by unfold cmH csC gathH; (repeat (first | exact Has.nil | (apply Has.cons; focus ((repeat (first | exact pick_here | apply pick_there)); done)) | apply Has.nrow | apply Has.gen0)))
 refine w_rangeFunc (σ := List (ByteArray × Th) × (Option Addr × Nat) × (Option Addr × Nat)) (τ := Empty) (A := [blk b [.pointer (some ⟨c, 5, none⟩)] 198] ++ cmH c s x ++ gathH b4 b5 b6 b7 name t ([], (none, 0), (none, 0))) [0, 0, 0, 0, 0, 0, 0, 0, 0, 0, 0, 0, 0, 0]
  (fun q => [blk b [.pointer (some ⟨c, 5, none⟩)] 198] ++ cmH c s x ++ gathH b4 b5 b6 b7 name t q) (fun e => e.elim) (fun q => q.1 = (mOwn s).map (turnE name t)) (fun e => False) (fun e => e.elim) ?_ rfl rfl rfl (fun _ => rfl) (fun e => e.elim) ?_ (fun D e => e.elim)
 ·intro ly D fn tmps hE
  refine (hi (σ := List (ByteArray × Th) × (Option Addr × Nat) × (Option Addr × Nat)) (τ := Empty) ly b (fun q => recC ly (recL fn tmps #[16, 17] _ _ D) :: gathH b4 b5 b6 b7 name t q) (fun e => e.elim) (fun pre q => q.1 = pre.map (turnE name t)) (fun e => False) ([], (none, 0), (none, 0)) ?_ (fun _ => rfl) (fun e => e.elim) rfl).perm [1, 1, 1, 1, 1, 1, 1, 1, 0, 0, 0, 0, 0, 0, 0] rfl (fun z => by cases z with | inl z => rfl | inr e => exact e.elim) (fun z => by cases z with | inl z => exact ⟨[8, 0, 0, 0, 0, 0, 0, 0, 0, 0, 0, 0, 0, 0, 0], [], rfl⟩ | inr e => exact e.elim)
  intro pre e rest q hsplit hq
  obtain ⟨l, ⟨a1, c1⟩, ⟨a2, c2⟩⟩ := q
  dsimp only at hq
  have hll : l.length ≤ 1000000000000 := by
   rw [hq, List.length_map]
   have := congrArg List.length hsplit
   rw [List.length_append] at this
   omega
  refine yd_go (ps := [16, 17]) (E0 := [(4, .pointer (some ⟨b4, 0, none⟩)), (5, .pointer (some ⟨b5, 0, none⟩)), (6, .pointer (some ⟨b6, 0, none⟩)), (7, .pointer (some ⟨b7, 0, none⟩))]) hE ⟨rfl, rfl, rfl, rfl, trivial⟩ rfl rfl (fun w0 => ?_)
  simp only [List.zip_cons_cons, List.zip_nil_right, envPut]
  unfold gathH thG thV
  dsimp only
  refine rr ?_
  intro b9 _
  refine rr ?_
  refine w_turn (fun w hw => hw.pick 1 rfl) ?_
  refine w_begin rfl rfl ?_
  have hfin : (pre ++ [e]).map (turnE name t) = l ++ [turnE name t e] := by rw [List.map_append, hq]; rfl
  by_cases hen : e.1 = Sc.bs name
  ·have hte : turnE name t e = (e.1, t) := by unfold turnE; rw [if_pos hen]
   refine rr ?_
   refine dr [0, 1, 4, 5, 99] [0, 4, 5] [0, 4, 6] ?_
   refine rr ?_
   refine tw (i := 2) (j := 6) [99] [2, 3, 7, 8, 9] ?_ ?_
   rotate_left
   ·skip
    refine rr ?_
    intro b11 _
    refine rr ?_
    intro b10 _
    refine rr ?_
    rintro ⟨a3, c3⟩ ⟨hc3, _⟩
    refine rr ?_
    rintro ⟨a4, c4⟩ ⟨hc4, _⟩
    refine rr ?_
    rw [show l.length + 1 = (l ++ [turnE name t e]).length by simp]
    rw [show thC (List.map Prod.snd l) ++ [Value.int IntKind.i64 (t).kind, Value.int IntKind.i64 (t).pl, Value.int IntKind.i64 (t).size, Value.bool (t).takes] = thC (List.map Prod.snd (l ++ [turnE name t e])) by rw [hte, List.map_append]; exact (thC_snoc _ _).symm]
    rw [show strC (List.map Prod.fst l) ++ [Value.string e.fst] = strC (List.map Prod.fst (l ++ [turnE name t e])) by rw [hte, List.map_append]; simp [strC]]
    exact w_rgo (Sum.inl (l ++ [turnE name t e], (a3, c3), (a4, c4))) [0, 5, 5, 1, 2, 0, 0] (i := 5) rfl rfl rfl hfin.symm
   ·skip
    refine rr ?_
    intro b10 _
    refine rr ?_
    refine tw (i := 3) (j := 6) [6, 7, 8, 9] [3, 7, 8, 9] ?_ ?_
    ·skip
     refine rr ?_
     rintro ⟨a3, c3⟩ ⟨hc3, _⟩
     refine rr ?_
     intro b11 _
     refine rr ?_
     rintro ⟨a4, c4⟩ ⟨hc4, _⟩
     refine rr ?_
     rw [show l.length + 1 = (l ++ [turnE name t e]).length by simp]
     rw [show thC (List.map Prod.snd l) ++ [Value.int IntKind.i64 (t).kind, Value.int IntKind.i64 (t).pl, Value.int IntKind.i64 (t).size, Value.bool (t).takes] = thC (List.map Prod.snd (l ++ [turnE name t e])) by rw [hte, List.map_append]; exact (thC_snoc _ _).symm]
     rw [show strC (List.map Prod.fst l) ++ [Value.string e.fst] = strC (List.map Prod.fst (l ++ [turnE name t e])) by rw [hte, List.map_append]; simp [strC]]
     exact w_rgo (Sum.inl (l ++ [turnE name t e], (a3, c3), (a4, c4))) [0, 5, 5, 1, 2, 0, 0] (i := 5) rfl rfl rfl hfin.symm
    ·skip
     refine rr ?_
     intro b11 _
     refine rr ?_
     rintro ⟨a3, c3⟩ ⟨hc3, _⟩
     refine rr ?_
     rintro ⟨a4, c4⟩ ⟨hc4, _⟩
     refine rr ?_
     rw [show l.length + 1 = (l ++ [turnE name t e]).length by simp]
     rw [show thC (List.map Prod.snd l) ++ [Value.int IntKind.i64 (t).kind, Value.int IntKind.i64 (t).pl, Value.int IntKind.i64 (t).size, Value.bool (t).takes] = thC (List.map Prod.snd (l ++ [turnE name t e])) by rw [hte, List.map_append]; exact (thC_snoc _ _).symm]
     rw [show strC (List.map Prod.fst l) ++ [Value.string e.fst] = strC (List.map Prod.fst (l ++ [turnE name t e])) by rw [hte, List.map_append]; simp [strC]]
     exact w_rgo (Sum.inl (l ++ [turnE name t e], (a3, c3), (a4, c4))) [0, 5, 5, 1, 2, 0, 0] (i := 5) rfl rfl rfl hfin.symm
  ·have hte : turnE name t e = e := by unfold turnE; rw [if_neg hen]
   refine rr ?_
   refine dr [0, 1, 4, 5, 99] [0, 4, 5] [1, 4, 6] ?_
   refine rr ?_
   refine tw (i := 2) (j := 6) [99] [2, 3, 7, 8, 9] ?_ ?_
   rotate_left
   ·skip
    refine rr ?_
    intro b11 _
    refine rr ?_
    intro b10 _
    refine rr ?_
    rintro ⟨a3, c3⟩ ⟨hc3, _⟩
    refine rr ?_
    rintro ⟨a4, c4⟩ ⟨hc4, _⟩
    refine rr ?_
    rw [show l.length + 1 = (l ++ [turnE name t e]).length by simp]
    rw [show thC (List.map Prod.snd l) ++ [Value.int IntKind.i64 (e.2).kind, Value.int IntKind.i64 (e.2).pl, Value.int IntKind.i64 (e.2).size, Value.bool (e.2).takes] = thC (List.map Prod.snd (l ++ [turnE name t e])) by rw [hte, List.map_append]; exact (thC_snoc _ _).symm]
    rw [show strC (List.map Prod.fst l) ++ [Value.string e.fst] = strC (List.map Prod.fst (l ++ [turnE name t e])) by rw [hte, List.map_append]; simp [strC]]
    exact w_rgo (Sum.inl (l ++ [turnE name t e], (a3, c3), (a4, c4))) [0, 5, 5, 1, 2, 0, 0] (i := 4) rfl rfl rfl hfin.symm
   ·skip
    refine rr ?_
    intro b10 _
    refine rr ?_
    refine tw (i := 3) (j := 6) [6, 7, 8, 9] [3, 7, 8, 9] ?_ ?_
    ·skip
     refine rr ?_
     rintro ⟨a3, c3⟩ ⟨hc3, _⟩
     refine rr ?_
     intro b11 _
     refine rr ?_
     rintro ⟨a4, c4⟩ ⟨hc4, _⟩
     refine rr ?_
     rw [show l.length + 1 = (l ++ [turnE name t e]).length by simp]
     rw [show thC (List.map Prod.snd l) ++ [Value.int IntKind.i64 (e.2).kind, Value.int IntKind.i64 (e.2).pl, Value.int IntKind.i64 (e.2).size, Value.bool (e.2).takes] = thC (List.map Prod.snd (l ++ [turnE name t e])) by rw [hte, List.map_append]; exact (thC_snoc _ _).symm]
     rw [show strC (List.map Prod.fst l) ++ [Value.string e.fst] = strC (List.map Prod.fst (l ++ [turnE name t e])) by rw [hte, List.map_append]; simp [strC]]
     exact w_rgo (Sum.inl (l ++ [turnE name t e], (a3, c3), (a4, c4))) [0, 5, 5, 1, 2, 0, 0] (i := 4) rfl rfl rfl hfin.symm
    ·skip
     refine rr ?_
     intro b11 _
     refine rr ?_
     rintro ⟨a3, c3⟩ ⟨hc3, _⟩
     refine rr ?_
     rintro ⟨a4, c4⟩ ⟨hc4, _⟩
     refine rr ?_
     rw [show l.length + 1 = (l ++ [turnE name t e]).length by simp]
     rw [show thC (List.map Prod.snd l) ++ [Value.int IntKind.i64 (e.2).kind, Value.int IntKind.i64 (e.2).pl, Value.int IntKind.i64 (e.2).size, Value.bool (e.2).takes] = thC (List.map Prod.snd (l ++ [turnE name t e])) by rw [hte, List.map_append]; exact (thC_snoc _ _).symm]
     rw [show strC (List.map Prod.fst l) ++ [Value.string e.fst] = strC (List.map Prod.fst (l ++ [turnE name t e])) by rw [hte, List.map_append]; simp [strC]]
     exact w_rgo (Sum.inl (l ++ [turnE name t e], (a3, c3), (a4, c4))) [0, 5, 5, 1, 2, 0, 0] (i := 4) rfl rfl rfl hfin.symm
 ·intro D q hq
  obtain ⟨l, ⟨a1, c1⟩, ⟨a2, c2⟩⟩ := q
  dsimp only at hq
  have hll : l.length ≤ 1000000000000 := by rw [hq, List.length_map]; exact hown
  have hl1 := thC_len (l.map Prod.snd)
  have hl2 := strC_len (l.map Prod.fst)
  rw [List.length_map] at hl1 hl2
  have g1 := dx_close s
  have ho := fun y hy => openC (TA := TA) (L := L) c (mClose s) y (by have := wt_begs (Int.le_refl (wt (mClose s))); have := g1.w; omega) hy
  have g2 := g1.tr (k := 1) (dx_open _)
  have hlw := wt_close s
  have hlw2 := (dx_open (mClose s)).w
  have hll2 : l.length = (mOwn s).length := by rw [hq, List.length_map]
  unfold gathH
  dsimp only
  have hs1 : ∀ k, mDefs (mOpen (mClose s)) ((mOwn s).map (turnE name t)) = mDefs (mDefs (mOpen (mClose s)) (l.take k)) (l.drop k) := fun k => by
   rw [← mDefs_app, List.take_append_drop, hq]
  have hdf : ∀ k : Nat, Dx (k : Int) (mOpen (mClose s)) (mDefs (mOpen (mClose s)) (l.take k)) := fun k => (dx_defs (l.take k) _).up (by rw [List.length_take]; omega)
  generalize hT : mDefs (mOpen (mClose s)) ((mOwn s).map (turnE name t)) = ST at hs1
  have hres : (mDefs (mOpen (mClose s)) ((mOwn s).map fun e => if e.1 = Sc.bs name then (e.1, t) else e)) = ST := hT
  rw [hres]
  try unfold cmH csC at ho
  try unfold cmH at ho
  try unfold cP at ho
  try unfold bP at ho
  try unfold tP at ho
  try unfold inG at ho
  try unfold thG at ho
  try unfold clo at ho
  refine rr ?_
  refine cl (hc x hx) ?_
  intro y hy
  try simp only [Sx.ap1, Sx.ap2, Sx.ap3]
  refine rr ?_
  refine cl (ho y hy) ?_
  intro z hz
  try simp only [Sx.ap1, Sx.ap2, Sx.ap3]
  refine rr ?_
  refine lo [0, 7, 38, 39] (fun z : Nat × CS × Ad => [(40, .int .i64 (z.1 : Int))]) (fun z => [(0, blk c (csC z.2.1 z.2.2) 80), (1, row z.2.2.ca z.2.2.cc 105 5 z.2.1.code.length (insC z.2.1.code)), (2, row z.2.2.pa z.2.2.pc 94 3 z.2.1.pats.length (paC z.2.1.pats)), (3, row z.2.2.na z.2.2.nc 274 5 z.2.1.ents.length (enC z.2.1.ents)), (4, row z.2.2.ba z.2.2.bc 3 1 z.2.1.begs.length (natC z.2.1.begs)), (5, row z.2.2.ea z.2.2.ec 154 2 z.2.1.exps.length (syC z.2.1.exps)), (6, row z.2.2.ia z.2.2.ic 9 1 z.2.1.imps.length (strC z.2.1.imps))]) (fun z => OkX TA L z.2.1 z.2.2 ∧ z.1 ≤ l.length ∧ z.2.1 = mDefs (mOpen (mClose s)) (l.take z.1)) (fun z => l.length - z.1) (0, mOpen (mClose s), z) ⟨hz, Nat.zero_le _, rfl⟩ ?_
  rintro ⟨k, q, xq⟩ ⟨hxq, hk, hqe⟩ K1 hK1
  dsimp only at hxq hk hqe ⊢
  unfold csC
  by_cases hlt : k < l.length
  ·obtain ⟨e, he⟩ := some_at hlt
   have hstr : (strC (l.map Prod.fst))[0 + (k : Int).toNat * 1]? = some (.string e.1) := by
    rw [show 0 + (k : Int).toNat * 1 = k by omega]
    simp [strC, he]
   have hth : ((thC (l.map Prod.snd)).drop (0 + (k : Int).toNat * 4)).take 4 = thV e.2 := thC_all (k := k) (by simp [he]) _ (by omega)
   unfold thV at hth
   have dk := hdf k
   rw [← hqe] at dk
   have hd1 := fun y hy => defineC (TA := TA) (L := L) c q y (Sc.txt e.1) e.2 (by have := wt_ents (Int.le_refl (wt q)); have := dk.w; omega) (by have := wt_begs (Int.le_refl (wt q)); have := dk.w; omega) (fun b hb => by have := (dk.g (g2.g hg)).bg b hb; have := wt_ents (Int.le_refl (wt q)); have := dk.w; omega) hy
   have hnx : mDef (Sc.txt e.1) e.2 q = mDefs (mOpen (mClose s)) (l.take (k + 1)) := by
    rw [hqe, ← mDefs_snoc, List.take_add_one, he]; rfl
   rw [Sc.bs_txt] at hd1
   generalize mDef (Sc.txt e.1) e.2 q = q2 at *
   try unfold cmH csC at hd1
   try unfold cmH at hd1
   try unfold cP at hd1
   try unfold bP at hd1
   try unfold tP at hd1
   try unfold inG at hd1
   try unfold thG at hd1
   try unfold clo at hd1
   refine w_use (fun w hw => (hw.pick 11 rfl).row_some (by first | omega | decide | (simp; done) | (simp <;> omega))) ?_
   rintro ⟨g11, rfl⟩
   refine w_use (fun w hw => (hw.pick 13 rfl).row_some (by first | omega | decide | (simp; done) | (simp <;> omega))) ?_
   rintro ⟨g13, rfl⟩
   refine rr ?_
   refine dr [0, 1, 2, 3, 4, 5, 6, 7, 8] [4, 7] [13, 12] ?_
   refine rr ?_
   refine cle (hd1 xq hxq) ?_
   intro u hu
   try simp only [Sx.ap1, Sx.ap2, Sx.ap3]
   refine rr ?_
   exact ro hK1 (k + 1, q2, u) ⟨hu, by dsimp only; omega, hnx⟩
  ·obtain rfl : k = l.length := by omega
   have hqS : q = ST := by rw [hqe, List.take_length, ← hT, ← hq]
   rw [← hqS]
   refine rr ?_
   exact weM1 xq [0, 0, 0, 0, 0, 0, 0] hxq
end Go.Proofs.YtkolmklfgbimoaaGreatDoor.Cm
namespace Go.Proofs.YtkolmklfgbimoaaGreatDoor.Cm
open Go
set_option maxRecDepth 100000
structure Pm where
 mk ::
 (f : Int → Int) (nn : ∀ x, 0 ≤ x → 0 ≤ f x)
def sh (d : Pm) (s : CS) : CS := { s with toks := s.toks.map (fun t => (t.1, (d.f t.2).toNat)), en := d.f s.en, bad := if s.e = 0 then s.bad else d.f s.bad }
section
variable (d : Pm)
theorem stop_sh {e : Int} (he : e ≠ 0) (pl : Int) (s : CS) : mStop e (d.f pl) (sh d s) = sh d (mStop e pl s) := by
 unfold mStop sh
 by_cases h : s.e = 0
 ·simp [h, he]
 ·simp [h]
theorem here_sh (s : CS) : mHere (sh d s) = d.f (mHere s) := by
 unfold mHere sh
 cases s.toks with
 | nil => rfl
 | cons t r => exact Int.toNat_of_nonneg (d.nn _ (by omega))
theorem sees_sh (w : List UInt8) (s : CS) : mSees w (sh d s) = mSees w s := by
 unfold mSees sh
 cases s.toks <;> rfl
theorem tail_sh (s : CS) : mTail (sh d s) = sh d (mTail s) := by
 unfold mTail sh
 cases s.toks <;> rfl
theorem named_sh (s : CS) : mNamed (sh d s) = mNamed s := by
 unfold mNamed sh
 cases s.toks <;> rfl
theorem text_sh (s : CS) : mText (sh d s) = mText s := by
 unfold mText sh
 cases s.toks <;> rfl
theorem isNum_sh (s : CS) : mIsNum (sh d s) = mIsNum s := by
 unfold mIsNum sh
 cases s.toks <;> rfl
theorem num_sh (s : CS) : mNum (sh d s) = mNum s := by
 unfold mNum sh
 cases s.toks <;> rfl
theorem has_sh (w : List UInt8) (s : CS) : mHas w (sh d s) = sh d (mHas w s) := by
 unfold mHas; rw [sees_sh, tail_sh]; split <;> rfl
theorem must_sh (w : List UInt8) (s : CS) : mMust w (sh d s) = sh d (mMust w s) := by
 unfold mMust; rw [sees_sh, tail_sh, here_sh, stop_sh d (by decide)]; split <;> rfl
theorem name_sh (s : CS) : mName (sh d s) = ((mName s).1, sh d (mName s).2) := by
 unfold mName; rw [named_sh, tail_sh, here_sh, text_sh, stop_sh d (by decide)]; split <;> rfl
theorem number_sh (s : CS) : mNumber (sh d s) = ((mNumber s).1, sh d (mNumber s).2) := by
 unfold mNumber; rw [isNum_sh, tail_sh, here_sh, num_sh, stop_sh d (by decide)]; split <;> rfl
theorem find_sh (n : List UInt8) (s : CS) : mFind n (sh d s) = mFind n s := rfl
theorem defOk_sh (n : List UInt8) (s : CS) : mDefOk n (sh d s) = mDefOk n s := rfl
theorem e_sh (s : CS) : (sh d s).e = s.e := rfl
theorem len_sh (s : CS) : (sh d s).toks.length = s.toks.length := by simp [sh]
theorem ne_sh (s : CS) : (sh d s).toks ≠ [] ↔ s.toks ≠ [] := by simp [sh]
theorem def_sh (n : List UInt8) (t : Th) (s : CS) : mDef n t (sh d s) = sh d (mDef n t s) := by
 unfold mDef; rw [defOk_sh]; split <;> rfl
theorem open_sh (s : CS) : mOpen (sh d s) = sh d (mOpen s) := rfl
theorem close_sh (s : CS) : mClose (sh d s) = sh d (mClose s) := by
 unfold mClose
 show (if s.begs.length = 0 then _ else _) = _
 split <;> rfl
theorem own_sh (s : CS) : mOwn (sh d s) = mOwn s := rfl
theorem define_sh (n : List UInt8) (pl : Int) (t : Th) (s : CS) : mDefine n (d.f pl) t (sh d s) = sh d (mDefine n pl t s) := by
 unfold mDefine; rw [defOk_sh, def_sh, stop_sh d (by decide), e_sh]; split
 ·split <;> rfl
 ·rfl
theorem look_sh (n : List UInt8) (pl : Int) (s : CS) : mLook n (d.f pl) (sh d s) = ((mLook n pl s).1, sh d (mLook n pl s).2) := by
 unfold mLook; rw [find_sh, stop_sh d (by decide)]; split <;> rfl
theorem put_sh (i : In) (s : CS) : mPut i (sh d s) = sh d (mPut i s) := rfl
theorem mark_sh (i : In) (k n : Int) (s : CS) : mMark i k n (sh d s) = sh d (mMark i k n s) := rfl
theorem jump_sh (i : In) (s : CS) : mJump i (sh d s) = sh d (mJump i s) := by unfold mJump; split <;> rfl
theorem aim_sh (pl tg : Int) (s : CS) : mAim pl tg (sh d s) = sh d (mAim pl tg s) := by
 unfold mAim
 have h : (sh d s).code = s.code := rfl
 rw [h]
 cases aimL s.code pl tg <;> rfl
theorem land_sh (pl : Int) (s : CS) : mLand pl (sh d s) = sh d (mLand pl s) := aim_sh d _ _ s
theorem back_sh (i : In) (tg : Int) (s : CS) : mBack i tg (sh d s) = sh d (mBack i tg s) := by unfold mBack; rw [jump_sh, aim_sh]; rfl
theorem take_sh (s : CS) : mTake (sh d s) = sh d (mTake s) := by
 unfold mTake
 show (if s.taken = 8 then _ else _) = _
 split <;> rfl
theorem give_sh (s : CS) : mGive (sh d s) = sh d (mGive s) := rfl
theorem reg_sh (pl : Int) (s : CS) : mReg (d.f pl) (sh d s) = ((mReg pl s).1, sh d (mReg pl s).2) := by
 unfold mReg; rw [take_sh, stop_sh d (by decide)]
 show (if s.taken = 8 then _ else _) = _
 split <;> rfl
theorem load_sh (t : Th) (r : Int) (s : CS) : mLoad t r (sh d s) = sh d (mLoad t r s) := by unfold mLoad; split <;> rfl
theorem store_sh (t : Th) (r : Int) (s : CS) : mStore t r (sh d s) = sh d (mStore t r s) := by unfold mStore; split <;> rfl
theorem const_sh (r n : Int) (s : CS) : mConst r n (sh d s) = sh d (mConst r n s) := rfl
def ShF (d : Pm) (f : CS → Int × CS) : Prop := ∀ s, f (sh d s) = ((f s).1, sh d (f s).2)
def ShS (d : Pm) (f : CS → CS) : Prop := ∀ s, f (sh d s) = sh d (f s)
variable {d}
theorem inner_sh {f : CS → Int × CS} (hf : ShF d f) (pl : Int) (s : CS) : mInner (d.f pl) f (sh d s) = ((mInner pl f s).1, sh d (mInner pl f s).2) := by
 unfold mInner
 show (if s.fac + 1 > 16 then (8, mStop 8 (d.f pl) (sh d { s with fac := s.fac + 1 })) else ((f (sh d { s with fac := s.fac + 1 })).1, { (f (sh d { s with fac := s.fac + 1 })).2 with fac := (f (sh d { s with fac := s.fac + 1 })).2.fac - 1 })) = _
 rw [hf, stop_sh d (by decide)]
 split <;> rfl
theorem index_sh {ex : CS → Int × CS} (hx : ShF d ex) (t : Th) (s : CS) : mIndex ex t (sh d s) = ((mIndex ex t s).1, sh d (mIndex ex t s).2) := by
 unfold mIndex
 dsimp only
 rw [must_sh, here_sh, e_sh, inner_sh hx]
 split
 ·rfl
 ·dsimp only; rw [must_sh, put_sh]
theorem value_sh {ex : CS → Int × CS} (hx : ShF d ex) (s : CS) : mValue ex (sh d s) = ((mValue ex s).1, sh d (mValue ex s).2) := by
 unfold mValue
 dsimp only
 rw [name_sh, here_sh]
 dsimp only
 rw [look_sh, e_sh]
 dsimp only
 rw [e_sh, index_sh hx, reg_sh, stop_sh d (by decide)]
 dsimp only
 rw [mark_sh, load_sh]
 split
 ·rfl
 ·split
  ·rfl
  ·split
   ·rfl
   ·split <;> rfl
theorem factorB_sh {ex fa : CS → Int × CS} (hx : ShF d ex) (hf : ShF d fa) : ShF d (mFactorB ex fa) := by
 intro s
 unfold mFactorB
 dsimp only
 rw [sees_sh, sees_sh, sees_sh, named_sh, here_sh, tail_sh, inner_sh hx, inner_sh hf, value_sh hx, number_sh]
 dsimp only
 rw [must_sh, put_sh, put_sh, e_sh, reg_sh]
 dsimp only
 rw [const_sh]
 split
 ·rfl
 ·split
  ·rfl
  ·split
   ·rfl
   ·split
    ·rfl
    ·split <;> rfl
theorem join_sh {part : CS → Int × CS} (hp : ShF d part) (ops : List (List UInt8 × Int)) (n : Int) : ∀ (m : Nat) (s : CS), mJoin part ops n m (sh d s) = sh d (mJoin part ops n m s)
 | 0, s => rfl
 | m + 1, s => by
  unfold mJoin
  rw [text_sh, sees_sh, tail_sh, hp]
  simp only [e_sh, ne_sh]
  cases opsOf ops (mText s) with
  | none => dsimp only; split <;> rfl
  | some op =>
   dsimp only
   rw [put_sh, give_sh, join_sh hp ops n m]
   split
   ·split <;> rfl
   ·rfl
theorem joined_sh {part : CS → Int × CS} (hp : ShF d part) (ops : List (List UInt8 × Int)) : ShF d (mJoined part ops) := by
 intro s
 unfold mJoined
 rw [hp]
 dsimp only
 rw [len_sh, join_sh hp]
theorem sum_sh {fa : CS → Int × CS} (hf : ShF d fa) : ShF d (mSum fa) := joined_sh (joined_sh hf termO) sumO
theorem cmp_sh {fa : CS → Int × CS} (hf : ShF d fa) (n : Int) (w : List UInt8) (s : CS) : mCmp fa n w (sh d s) = sh d (mCmp fa n w s) := by
 unfold mCmp
 dsimp only
 rw [tail_sh, sum_sh hf]
 dsimp only
 split <;> split <;> rfl
theorem cmps_sh {fa : CS → Int × CS} (hf : ShF d fa) (n : Int) : ∀ (l : List (List UInt8)) (s : CS), mCmps fa n l (sh d s) = sh d (mCmps fa n l s)
 | [], s => rfl
 | w :: l, s => by
  unfold mCmps
  rw [sees_sh, e_sh, cmp_sh hf, cmps_sh hf n l]
  split <;> rfl
theorem exprB_sh {fa : CS → Int × CS} (hf : ShF d fa) : ShF d (mExprB fa) := by
 intro s
 unfold mExprB
 rw [sum_sh hf]
 dsimp only
 rw [cmps_sh hf]
theorem factor_sh : ∀ n, ShF d (mFactor n)
 | 0 => fun s => rfl
 | n + 1 => factorB_sh (exprB_sh (factor_sh n)) (factor_sh n)
theorem expr_sh (N : Nat) : ShF d (mExpr N) := exprB_sh (factor_sh N)
theorem assign_sh (N : Nat) (t : Th) (s : CS) : mAssign N t (sh d s) = sh d (mAssign N t s) := by
 unfold mAssign
 dsimp only
 rw [index_sh (expr_sh N)]
 dsimp only
 rw [must_sh, must_sh, expr_sh, expr_sh]
 dsimp only
 rw [store_sh]
 split <;> rfl
theorem arg_sh (N : Nat) (t : Th) (s : CS) : mArg N t (sh d s) = sh d (mArg N t s) := by
 unfold mArg
 dsimp only
 rw [must_sh, expr_sh]
 dsimp only
 rw [must_sh]
 split <;> rfl
theorem call_sh (N : Nat) (t : Th) (s : CS) : mCall N t (sh d s) = sh d (mCall N t s) := by
 unfold mCall
 rw [arg_sh, mark_sh, back_sh]
 split <;> rfl
theorem begun_sh (N : Nat) (s : CS) : mBegun N (sh d s) = sh d (mBegun N s) := by
 unfold mBegun
 dsimp only
 rw [name_sh, here_sh]
 dsimp only
 rw [look_sh]
 dsimp only
 rw [e_sh, call_sh, assign_sh]
 split
 ·rfl
 ·split <;> rfl
theorem within_sh {f : CS → CS} (hf : ShS d f) (pl : Int) (s : CS) : mWithin (d.f pl) f (sh d s) = sh d (mWithin pl f s) := by
 unfold mWithin
 show (if s.nest + 1 > 16 then mStop 8 (d.f pl) (sh d { s with nest := s.nest + 1 }) else { f (sh d { s with nest := s.nest + 1 }) with nest := (f (sh d { s with nest := s.nest + 1 })).nest - 1 }) = _
 rw [hf, stop_sh d (by decide)]
 split <;> rfl
theorem codeL_sh (s : CS) : (sh d s).code = s.code := rfl
theorem choice_sh (N : Nat) {f : CS → CS} (hf : ShS d f) (pl : Int) (s : CS) : mChoice N f (d.f pl) (sh d s) = sh d (mChoice N f pl s) := by
 unfold mChoice
 dsimp only
 rw [expr_sh]
 dsimp only
 rw [must_sh, jump_sh, give_sh, within_sh hf, codeL_sh, sees_sh, tail_sh, codeL_sh, jump_sh, land_sh, within_sh hf, must_sh, must_sh, land_sh, land_sh]
 split <;> rfl
theorem loop_sh (N : Nat) {f : CS → CS} (hf : ShS d f) (pl : Int) (s : CS) : mLoop N f (d.f pl) (sh d s) = sh d (mLoop N f pl s) := by
 unfold mLoop
 dsimp only
 rw [expr_sh]
 dsimp only
 rw [must_sh, jump_sh, give_sh, within_sh hf, codeL_sh, must_sh, codeL_sh, back_sh, land_sh]
theorem reads_sh (s : CS) : mReads (sh d s) = sh d (mReads s) := by
 unfold mReads
 dsimp only
 rw [name_sh, here_sh]
 dsimp only
 rw [look_sh]
 dsimp only
 rw [stop_sh d (by decide), e_sh]
 split <;> rw [put_sh, store_sh]
theorem stmtB_sh (N : Nat) {f : CS → CS} (hf : ShS d f) : ShS d (mStmtB N f) := by
 intro s
 unfold mStmtB
 dsimp only
 rw [here_sh, sees_sh, sees_sh, sees_sh, sees_sh, named_sh, tail_sh, choice_sh N hf, loop_sh N hf, expr_sh, reads_sh, begun_sh]
 split
 ·rfl
 ·split
  ·rfl
  ·split
   ·rfl
   ·split
    ·rfl
    ·split <;> rfl
theorem seqs_sh {st : CS → CS} (hs : ShS d st) : ∀ (m : Nat) (s : CS), mSeqs st m (sh d s) = sh d (mSeqs st m s)
 | 0, s => rfl
 | m + 1, s => by
  unfold mSeqs
  rw [sees_sh, e_sh, tail_sh, hs, seqs_sh hs m]
  split <;> rfl
theorem stmtsB_sh {st : CS → CS} (hs : ShS d st) : ShS d (mStmtsB st) := by
 intro s
 unfold mStmtsB
 rw [hs, len_sh, seqs_sh hs]
theorem stmt_sh (N : Nat) : ∀ n, ShS d (mStmt N n)
 | 0 => fun s => rfl
 | n + 1 => stmtB_sh N (stmtsB_sh (stmt_sh N n))
theorem stmts_sh (N : Nat) : ShS d (mStmts N) := stmtsB_sh (stmt_sh N N)
theorem defs_sh : ∀ (l : List (ByteArray × Th)) (s : CS), mDefs (sh d s) l = sh d (mDefs s l)
 | [], s => rfl
 | e :: l, s => by
  unfold mDefs
  rw [def_sh, defs_sh l]
theorem redefine_sh (n : List UInt8) (t : Th) (s : CS) : mRedefine n t (sh d s) = sh d (mRedefine n t s) := by
 unfold mRedefine
 rw [close_sh, open_sh, own_sh, defs_sh]
theorem ite_sh (c : Prop) [Decidable c] (A B : CS) : (if c then sh d A else sh d B) = sh d (if c then A else B) := by split <;> rfl
theorem data_sh (q : CS) : (sh d q).data = q.data := rfl
def mPay (n : Int) (q : CS) : CS := mMust [59] { q with data := q.data + n }
theorem pay_sh (n : Int) (q : CS) : mPay n (sh d q) = sh d (mPay n q) := must_sh d [59] { q with data := q.data + n }
theorem variable_eq (s : CS) : mVariable s =
  let a := mName s
  let s1 := mDefine a.1 (mHere s) ⟨0, a.2.data, 1, false⟩ a.2
  if mSees [91] s1 then
   let b := mNumber (mTail s1)
   if b.2.e ≠ 0 then b.2
   else if b.1 < 1 ∨ b.1 > 2000 then mStop 3 (mHere (mTail s1)) b.2
   else if b.2.data + b.1 > 32000 then mStop 4 (mHere (mTail s1)) b.2
   else mPay b.1 (mMust [93] (mRedefine a.1 ⟨1, a.2.data, b.1, false⟩ b.2))
  else mPay 1 (if s1.e = 0 ∧ s1.data = 32000 then mStop 4 (mHere s) s1 else s1) := rfl
theorem variable_sh (s : CS) : mVariable (sh d s) = sh d (mVariable s) := by
 rw [variable_eq, variable_eq]
 dsimp only
 rw [name_sh, here_sh]
 dsimp only
 rw [data_sh, define_sh]
 generalize mDefine (mName s).1 (mHere s) ⟨0, (mName s).2.data, 1, false⟩ (mName s).2 = s1
 have st3 : ∀ pl q, mStop 3 (d.f pl) (sh d q) = sh d (mStop 3 pl q) := stop_sh d (by decide)
 have st4 : ∀ pl q, mStop 4 (d.f pl) (sh d q) = sh d (mStop 4 pl q) := stop_sh d (by decide)
 rw [sees_sh, tail_sh, number_sh, here_sh, e_sh, data_sh]
 simp only [st3, st4]
 rw [ite_sh, pay_sh, redefine_sh, must_sh, pay_sh, e_sh, data_sh]
 split
 ·split
  ·rfl
  ·split
   ·rfl
   ·split <;> rfl
 ·rfl
theorem param_sh (s : CS) : mParam (sh d s) = (((mParam s).1.1, if (mParam s).1.2.2 then d.f (mParam s).1.2.1 else (mParam s).1.2.1, (mParam s).1.2.2), sh d (mParam s).2) := by
 unfold mParam
 dsimp only
 rw [sees_sh, tail_sh, here_sh, name_sh]
 dsimp only
 rw [must_sh]
 split <;> rfl
theorem fresh_sh (n : List UInt8) (pl k : Int) (s : CS) : mFresh n (d.f pl) k (sh d s) = sh d (mFresh n pl k s) := by
 unfold mFresh
 dsimp only
 rw [find_sh, stop_sh d (by decide), e_sh]
 split
 ·rw [e_sh, stop_sh d (by decide)]; split <;> rfl
 ·rw [e_sh, stop_sh d (by decide)]; split <;> rfl
theorem imported_sh (s : CS) : mImported (sh d s) = sh d (mImported s) := by
 unfold mImported
 dsimp only
 rw [name_sh, here_sh]
 dsimp only
 have h2 : ∀ q : CS, (sh d q).imps = q.imps := fun _ => rfl
 rw [h2, fresh_sh, param_sh]
 dsimp only
 rw [define_sh]
 generalize mDefine _ _ _ _ = q
 exact must_sh d [59] { q with imps := q.imps ++ [Sc.bs (mName s).1] }
theorem owns_sh (n : List UInt8) (pl size : Int) (s : CS) : mOwns n (d.f pl) size (sh d s) = sh d (mOwns n pl size s) := by
 unfold mOwns
 dsimp only
 rw [define_sh, stop_sh d (by decide), e_sh]
 split <;> rfl
theorem vars_sh : ∀ (m : Nat) (size : Int) (s : CS), mVars m size (sh d s) = ((mVars m size s).1, sh d (mVars m size s).2)
 | 0, size, s => rfl
 | m + 1, size, s => by
  unfold mVars
  dsimp only
  rw [name_sh, here_sh]
  dsimp only
  rw [owns_sh, sees_sh, tail_sh, vars_sh m, e_sh]
  split
  ·split <;> rfl
  ·rfl
theorem enters_sh (takes : Bool) : ∀ (m : Nat) (n : Int) (s : CS), mEnters takes m n (sh d s) = sh d (mEnters takes m n s)
 | 0, n, s => rfl
 | m + 1, n, s => by
  unfold mEnters
  rw [put_sh, enters_sh takes m]
theorem enter_sh (size : Int) (takes : Bool) (s : CS) : mEnter size takes (sh d s) = sh d (mEnter size takes s) := by
 unfold mEnter
 rw [put_sh, mark_sh, put_sh, put_sh, put_sh, put_sh, enters_sh]
theorem leave_sh (size : Int) (s : CS) : mLeave size (sh d s) = sh d (mLeave size s) := rfl
theorem routine_sh (N : Nat) (s : CS) : mRoutine N (sh d s) = sh d (mRoutine N s) := by
 unfold mRoutine
 dsimp only
 rw [name_sh, here_sh]
 dsimp only
 have h2 : ∀ q : CS, (sh d q).exps = q.exps := fun _ => rfl
 rw [h2, codeL_sh, fresh_sh, param_sh]
 dsimp only
 rw [define_sh]
 have h3 : ∀ (q : CS) (x : Sy), ({ sh d q with exps := (sh d q).exps ++ [x] } : CS) = sh d { q with exps := q.exps ++ [x] } := fun _ _ => rfl
 rw [h3, must_sh, open_sh]
 generalize mOpen (mMust [59] _) = s2
 cases (mParam (mFresh (mName s).1 (mHere s) ((mName s).2.exps.length : Int) (mName s).2)).1.2.2 with
 | true =>
  simp only [if_true]
  rw [owns_sh, sees_sh, tail_sh, len_sh, vars_sh]
  dsimp only
  split
  ·rw [must_sh, must_sh, enter_sh, stmts_sh, must_sh, must_sh, leave_sh, close_sh]
  ·rw [must_sh, enter_sh, stmts_sh, must_sh, must_sh, leave_sh, close_sh]
 | false =>
  simp only [if_neg (show ¬ (false = true) by decide)]
  rw [sees_sh, tail_sh, len_sh, vars_sh]
  dsimp only
  split
  ·rw [must_sh, must_sh, enter_sh, stmts_sh, must_sh, must_sh, leave_sh, close_sh]
  ·rw [must_sh, enter_sh, stmts_sh, must_sh, must_sh, leave_sh, close_sh]
theorem decls_sh (N : Nat) : ∀ (m : Nat) (s : CS), mDecls N m (sh d s) = sh d (mDecls N m s)
 | 0, s => rfl
 | m + 1, s => by
  unfold mDecls
  rw [sees_sh, sees_sh, sees_sh, tail_sh, variable_sh, imported_sh, routine_sh, decls_sh N m, decls_sh N m, decls_sh N m, e_sh]
  split
  ·split
   ·rfl
   ·split
    ·rfl
    ·split <;> rfl
  ·rfl
theorem program_sh (N : Nat) (s : CS) : mProgram N (sh d s) = sh d (mProgram N s) := by
 unfold mProgram
 dsimp only
 rw [sees_sh, tail_sh, must_sh]
 have h3 : ∀ (q : CS) (x : ByteArray), ({ sh d q with name := x } : CS) = sh d { q with name := x } := fun _ _ => rfl
 have h4 : ∀ (b : Prop) [Decidable b] (p q : CS), (if b then sh d p else sh d q) = sh d (if b then p else q) := fun b _ p q => by split <;> rfl
 rw [h4, name_sh]
 dsimp only
 rw [h3, must_sh, open_sh, jump_sh, h4, len_sh, decls_sh, must_sh, codeL_sh, land_sh, mark_sh, stmts_sh, put_sh, h4, must_sh, must_sh, here_sh, stop_sh d (by decide)]
 simp only [e_sh, ne_sh]
 exact ite_sh _ _ _
end
end Go.Proofs.YtkolmklfgbimoaaGreatDoor.Cm
namespace Go.Proofs.YtkolmklfgbimoaaGreatDoor.Cm
open Go
set_option maxRecDepth 100000
theorem def_data (n : List UInt8) (t : Th) (s : CS) : (mDef n t s).data = s.data := by unfold mDef; split <;> rfl
theorem define_data (n : List UInt8) (pl : Int) (t : Th) (s : CS) : (mDefine n pl t s).data = s.data := by
 unfold mDefine; split
 ·split
  ·exact def_data _ _ _
  ·rfl
 ·rfl
theorem defs_data : ∀ (l : List (ByteArray × Th)) (s : CS), (mDefs s l).data = s.data
 | [], s => rfl
 | e :: l, s => by unfold mDefs; rw [defs_data l, def_data]
theorem close_data (s : CS) : (mClose s).data = s.data := by unfold mClose; split <;> rfl
theorem redefine_data (n : List UInt8) (t : Th) (s : CS) : (mRedefine n t s).data = s.data := by
 unfold mRedefine; rw [defs_data]; exact close_data s
theorem must_data (w : List UInt8) (s : CS) : (mMust w s).data = s.data := (ex_must w s).da
theorem must_e {w : List UInt8} {s : CS} (h : (mMust w s).e = 0) : s.e = 0 ∧ mSees w s = true := by
 unfold mMust at h
 by_cases hs : mSees w s = true
 ·rw [if_pos hs] at h; exact ⟨h, hs⟩
 ·rw [if_neg hs] at h; exact absurd h (stop_e _ _ _ (by decide))
theorem variable_data {s : CS} (hd : 0 ≤ s.data ∧ s.data ≤ 32000) (h : (mVariable s).e = 0) : 0 ≤ (mVariable s).data ∧ (mVariable s).data ≤ 32000 := by
 rw [variable_eq] at h ⊢
 dsimp only at h ⊢
 have d1 : (mName s).2.data = s.data := (ex_name s).da
 have d2 := define_data (mName s).1 (mHere s) ⟨0, (mName s).2.data, 1, false⟩ (mName s).2
 generalize mDefine (mName s).1 (mHere s) ⟨0, (mName s).2.data, 1, false⟩ (mName s).2 = s1 at *
 split at h
 ·rename_i hs
  rw [if_pos hs]
  have d3 : (mNumber (mTail s1)).2.data = s1.data := (ex_number _).da
  split at h
  ·rename_i he; exact absurd h he
  ·rename_i he
   rw [if_neg he]
   split at h
   ·exact absurd h (stop_e _ _ _ (by decide))
   ·rename_i hr
    rw [if_neg hr]
    split at h
    ·exact absurd h (stop_e _ _ _ (by decide))
    ·rename_i hl
     rw [if_neg hl]
     unfold mPay
     rw [must_data]
     dsimp only
     rw [must_data, redefine_data]
     omega
 ·rename_i hs
  rw [if_neg hs]
  unfold mPay at h ⊢
  have h2 := (must_e h).1
  rw [must_data]
  dsimp only at h2 ⊢
  split at h2
  ·exact absurd h2 (stop_e _ _ _ (by decide))
  ·rename_i hc
   rw [if_neg hc]
   have : s1.data ≠ 32000 := fun h => hc ⟨h2, h⟩
   omega
theorem imported_data (s : CS) : (mImported s).data = s.data := by
 unfold mImported
 dsimp only
 rw [must_data]
 dsimp only
 rw [define_data, (ex_param _).da, (ex_fresh _ _ _ _).da, (ex_name _).da]
theorem owns_data (n : List UInt8) (pl size : Int) (s : CS) : (mOwns n pl size s).data = s.data := by
 unfold mOwns
 dsimp only
 split
 ·exact define_data _ _ _ _
 ·exact define_data _ _ _ _
theorem vars_data : ∀ (m : Nat) (size : Int) (s : CS), (mVars m size s).2.data = s.data
 | 0, size, s => rfl
 | m + 1, size, s => by
  unfold mVars
  dsimp only
  split
  ·split
   ·rw [vars_data m]
    exact (owns_data _ _ _ _).trans (ex_name _).da
   ·exact (owns_data _ _ _ _).trans (ex_name _).da
  ·rfl
theorem enters_data (takes : Bool) : ∀ (m : Nat) (n : Int) (s : CS), (mEnters takes m n s).data = s.data
 | 0, n, s => rfl
 | m + 1, n, s => by unfold mEnters; rw [enters_data takes m]; rfl
theorem enter_data (size : Int) (takes : Bool) (s : CS) : (mEnter size takes s).data = s.data := by unfold mEnter; rw [enters_data]; rfl
theorem routine_data (N : Nat) (s : CS) : (mRoutine N s).data = s.data := by
 unfold mRoutine
 dsimp only
 have e3 := ((ex_name s).tr (k := 0) (ex_fresh (mName s).1 (mHere s) (((mName s).2.exps.length : Nat) : Int) (mName s).2)).tr (k := 0) (ex_param _)
 generalize mParam (mFresh (mName s).1 (mHere s) (((mName s).2.exps.length : Nat) : Int) (mName s).2) = p at *
 obtain ⟨⟨pn, pp, pt⟩, s3⟩ := p
 have d3 := e3.da
 dsimp only at *
 have d6 : (mOpen (mMust [59] { mDefine (mName s).1 (mHere s) ⟨3, ((mName s).2.code.length : Int), 0, pt⟩ s3 with exps := (mDefine (mName s).1 (mHere s) ⟨3, ((mName s).2.code.length : Int), 0, pt⟩ s3).exps ++ [⟨Sc.bs (mName s).1, ((mName s).2.code.length : Int)⟩] })).data = s.data := by
  show (mMust [59] _).data = _
  rw [must_data]
  exact (define_data _ _ _ _).trans d3
 generalize mOpen (mMust [59] { mDefine (mName s).1 (mHere s) ⟨3, ((mName s).2.code.length : Int), 0, pt⟩ s3 with exps := (mDefine (mName s).1 (mHere s) ⟨3, ((mName s).2.code.length : Int), 0, pt⟩ s3).exps ++ [⟨Sc.bs (mName s).1, ((mName s).2.code.length : Int)⟩] }) = s6 at *
 have hend : ∀ (sz : Int) (q : CS), (mClose (mLeave sz (mMust [59] (mMust [101, 110, 100] (mStmts N (mEnter sz pt (mMust [98, 101, 103, 105, 110] q))))))).data = q.data := by
  intro sz q
  rw [close_data, (ex_leave _ _).da, must_data, must_data, (ex_stmts _ _).da, enter_data, must_data]
 cases pt with
 | true =>
  simp only [if_true]
  split
  ·rw [hend, must_data, vars_data]
   exact (owns_data _ _ _ _).trans d6
  ·rw [hend]
   exact (owns_data _ _ _ _).trans d6
 | false =>
  simp only [if_neg (show ¬ (false = true) by decide)]
  split
  ·rw [hend, must_data, vars_data]
   exact d6
  ·rw [hend]
   exact d6
end Go.Proofs.YtkolmklfgbimoaaGreatDoor.Cm
namespace Go.Proofs.YtkolmklfgbimoaaGreatDoor.Cm
open Go Go.Sx Go.Sx.Chunk
set_option maxRecDepth 100000
variable {TA : Addr} {L : List (Sc.Tk × Nat)}
set_option maxHeartbeats 8000000 in
theorem variableC (c : Nat) (s : CS) (x : Ad) (hg : GD s) (hw : wt s + 4 ≤ 1000000000000) (hda : 0 ≤ s.data ∧ s.data ≤ 32000) (hx : OkX TA L s x) : FnC Tryz.prog 125 [cP c] (cmH c s x) [tkB TA L, spaceV] (fun _ => .tuple #[]) (fun y : Ad => cmH c (mVariable s) y) (fun y => OkX TA L (mVariable s) y) := by
 have h1 := nameC c s x hx
 have e1 := ex_name s
 rw [variable_eq]
 dsimp only
 generalize mHere s = pl at *
 generalize mName s = a at *
 obtain ⟨an, s1⟩ := a
 dsimp only at *
 have g1 := e1.dx.g hg
 have w1 := e1.w
 have da1 := e1.da
 have h2 := fun y hy => errDefC (TA := TA) (L := L) c s1 y an pl ⟨0, s1.data, 1, false⟩ (by have := wt_ents (Int.le_refl (wt s1)); omega) (by have := wt_begs (Int.le_refl (wt s1)); omega) (g1.bs (by omega)) hy
 have d2 := e1.dx.tr (k := 1) (dx_define an pl ⟨0, s1.data, 1, false⟩ s1)
 have da2 := define_data an pl ⟨0, s1.data, 1, false⟩ s1
 generalize mDefine an pl ⟨0, s1.data, 1, false⟩ s1 = s2 at *
 have w2 := d2.w
 have g2 := d2.g hg
 by_cases hb : mSees [91] s2 = true
 ·simp only [if_pos hb]
  have h3 := fun y hy => yesC (TA := TA) (L := L) c s2 y [91] hy hb
  have e3 := ex_sees hb
  have da3 : (mTail s2).data = s2.data := rfl
  generalize mTail s2 = s3 at *
  have w3 := e3.w
  have h4 := fun y hy => numberC (TA := TA) (L := L) c s3 y hy
  have e4 := e3.tr (k := -100) (ex_number s3)
  have hnum := fun h => (ex_num (s := s3) h).2.2
  have hnm := (e3.dx.g g2).nm
  generalize hn3 : mHere s3 = p3 at *
  by_cases hen : (mNumber s3).2.e ≠ 0
  ·simp only [if_pos hen]
   generalize mNumber s3 = b at *
   obtain ⟨n, s4⟩ := b
   dsimp only at *
   try unfold cmH csC at h1
   try unfold cmH at h1
   try unfold cP at h1
   try unfold bP at h1
   try unfold tP at h1
   try unfold inG at h1
   try unfold thG at h1
   try unfold clo at h1
   try unfold cmH csC at h2
   try unfold cmH at h2
   try unfold cP at h2
   try unfold bP at h2
   try unfold tP at h2
   try unfold inG at h2
   try unfold thG at h2
   try unfold clo at h2
   try unfold cmH csC at h3
   try unfold cmH at h3
   try unfold cP at h3
   try unfold bP at h3
   try unfold tP at h3
   try unfold inG at h3
   try unfold thG at h3
   try unfold clo at h3
   try unfold cmH csC at h4
   try unfold cmH at h4
   try unfold cP at h4
   try unfold bP at h4
   try unfold tP at h4
   try unfold inG at h4
   try unfold thG at h4
   try unfold clo at h4
   try unfold cmH csC at ⊢
   try unfold cmH at ⊢
   try unfold cP at ⊢
   try unfold bP at ⊢
   try unfold tP at ⊢
   try unfold inG at ⊢
   try unfold thG at ⊢
   try unfold clo at ⊢
   refine fn_intro Tryz.func125 Tryz.ntmps125 rfl rfl rfl (fun w0 => ?_)
   try simp only [Sx.ap1, Sx.ap2, Sx.ap3]
   refine rr ?_
   refine cl (h1) ?_
   intro y hy
   try simp only [Sx.ap1, Sx.ap2, Sx.ap3]
   refine rr ?_
   intro b4 _
   refine rr ?_
   refine cl (h2 y hy) ?_
   intro z hz
   try simp only [Sx.ap1, Sx.ap2, Sx.ap3]
   refine rr ?_
   refine cl (h3 z hz) ?_
   intro y hy
   try simp only [Sx.ap1, Sx.ap2, Sx.ap3]
   refine rr ?_
   refine cl (h4 y hy) ?_
   intro z hz
   try simp only [Sx.ap1, Sx.ap2, Sx.ap3]
   refine rr ?_
   exact en z hz
  ·simp only [if_neg hen]
   have hn32 : (mNumber s3).1 ≤ 32767 ∧ 0 ≤ (mNumber s3).1 := by
    have hx2 := ex_num hen
    rw [hx2.2.2]
    unfold mNum
    cases ht : s3.toks with
    | nil => exact absurd ht (num_ne hx2.2.1)
    | cons t r => exact ⟨(hnm t (by rw [ht]; simp)).2, (hnm t (by rw [ht]; simp)).1⟩
   generalize mNumber s3 = b at *
   obtain ⟨n, s4⟩ := b
   dsimp only at *
   have da4 := e4.da
   have w4 := e4.w
   have g4 := e4.dx.g g2
   have hen2 : s4.e = 0 := by simpa using hen
   by_cases hr : n < 1 ∨ n > 2000
   ·simp only [if_pos hr]
    have h5 := fun y => stopC (TA := TA) (L := L) c s4 y 3 p3
    generalize mStop 3 p3 s4 = s5 at *
    try unfold cmH csC at h1
    try unfold cmH at h1
    try unfold cP at h1
    try unfold bP at h1
    try unfold tP at h1
    try unfold inG at h1
    try unfold thG at h1
    try unfold clo at h1
    try unfold cmH csC at h2
    try unfold cmH at h2
    try unfold cP at h2
    try unfold bP at h2
    try unfold tP at h2
    try unfold inG at h2
    try unfold thG at h2
    try unfold clo at h2
    try unfold cmH csC at h3
    try unfold cmH at h3
    try unfold cP at h3
    try unfold bP at h3
    try unfold tP at h3
    try unfold inG at h3
    try unfold thG at h3
    try unfold clo at h3
    try unfold cmH csC at h4
    try unfold cmH at h4
    try unfold cP at h4
    try unfold bP at h4
    try unfold tP at h4
    try unfold inG at h4
    try unfold thG at h4
    try unfold clo at h4
    try unfold cmH csC at h5
    try unfold cmH at h5
    try unfold cP at h5
    try unfold bP at h5
    try unfold tP at h5
    try unfold inG at h5
    try unfold thG at h5
    try unfold clo at h5
    try unfold cmH csC at ⊢
    try unfold cmH at ⊢
    try unfold cP at ⊢
    try unfold bP at ⊢
    try unfold tP at ⊢
    try unfold inG at ⊢
    try unfold thG at ⊢
    try unfold clo at ⊢
    by_cases hn1 : n < 1
    all_goals
     refine fn_intro Tryz.func125 Tryz.ntmps125 rfl rfl rfl (fun w0 => ?_)
     try simp only [Sx.ap1, Sx.ap2, Sx.ap3]
     refine rr ?_
     refine cl (h1) ?_
     intro y hy
     try simp only [Sx.ap1, Sx.ap2, Sx.ap3]
     refine rr ?_
     intro b4 _
     refine rr ?_
     refine cl (h2 y hy) ?_
     intro z hz
     try simp only [Sx.ap1, Sx.ap2, Sx.ap3]
     refine rr ?_
     refine cl (h3 z hz) ?_
     intro y hy
     try simp only [Sx.ap1, Sx.ap2, Sx.ap3]
     refine rr ?_
     refine cl (h4 y hy) ?_
     intro z hz
     try simp only [Sx.ap1, Sx.ap2, Sx.ap3]
     refine rr ?_
     refine cl (h5 z) ?_
     intro y hy
     try simp only [Sx.ap1, Sx.ap2, Sx.ap3]
     refine rr ?_
     exact en y hy
   ·simp only [if_neg hr]
    by_cases hl : s4.data + n > 32000
    ·simp only [if_pos hl]
     have h5 := fun y => stopC (TA := TA) (L := L) c s4 y 4 p3
     generalize mStop 4 p3 s4 = s5 at *
     try unfold cmH csC at h1
     try unfold cmH at h1
     try unfold cP at h1
     try unfold bP at h1
     try unfold tP at h1
     try unfold inG at h1
     try unfold thG at h1
     try unfold clo at h1
     try unfold cmH csC at h2
     try unfold cmH at h2
     try unfold cP at h2
     try unfold bP at h2
     try unfold tP at h2
     try unfold inG at h2
     try unfold thG at h2
     try unfold clo at h2
     try unfold cmH csC at h3
     try unfold cmH at h3
     try unfold cP at h3
     try unfold bP at h3
     try unfold tP at h3
     try unfold inG at h3
     try unfold thG at h3
     try unfold clo at h3
     try unfold cmH csC at h4
     try unfold cmH at h4
     try unfold cP at h4
     try unfold bP at h4
     try unfold tP at h4
     try unfold inG at h4
     try unfold thG at h4
     try unfold clo at h4
     try unfold cmH csC at h5
     try unfold cmH at h5
     try unfold cP at h5
     try unfold bP at h5
     try unfold tP at h5
     try unfold inG at h5
     try unfold thG at h5
     try unfold clo at h5
     try unfold cmH csC at ⊢
     try unfold cmH at ⊢
     try unfold cP at ⊢
     try unfold bP at ⊢
     try unfold tP at ⊢
     try unfold inG at ⊢
     try unfold thG at ⊢
     try unfold clo at ⊢
     refine fn_intro Tryz.func125 Tryz.ntmps125 rfl rfl rfl (fun w0 => ?_)
     try simp only [Sx.ap1, Sx.ap2, Sx.ap3]
     refine rr ?_
     refine cl (h1) ?_
     intro y hy
     try simp only [Sx.ap1, Sx.ap2, Sx.ap3]
     refine rr ?_
     intro b4 _
     refine rr ?_
     refine cl (h2 y hy) ?_
     intro z hz
     try simp only [Sx.ap1, Sx.ap2, Sx.ap3]
     refine rr ?_
     refine cl (h3 z hz) ?_
     intro y hy
     try simp only [Sx.ap1, Sx.ap2, Sx.ap3]
     refine rr ?_
     refine cl (h4 y hy) ?_
     intro z hz
     try simp only [Sx.ap1, Sx.ap2, Sx.ap3]
     refine rr ?_
     refine cl (h5 z) ?_
     intro y hy
     try simp only [Sx.ap1, Sx.ap2, Sx.ap3]
     refine rr ?_
     exact en y hy
    ·simp only [if_neg hl]
     have h5 := fun y hy => redefineC (TA := TA) (L := L) c s4 y an ⟨1, s1.data, n, false⟩ g4 (by omega) hy
     have d5 := e4.dx.tr (k := -99) (dx_redefine an ⟨1, s1.data, n, false⟩ s4)
     have da5 := redefine_data an ⟨1, s1.data, n, false⟩ s4
     generalize mRedefine an ⟨1, s1.data, n, false⟩ s4 = s5 at *
     have h6 := fun y hy => mustC (TA := TA) (L := L) c s5 y [93] hy
     have da6 := (ex_must [93] s5).da
     generalize mMust [93] s5 = s6 at *
     have h7 := fun y hy => mustC (TA := TA) (L := L) c { s6 with data := s6.data + n } y [59] hy
     unfold mPay
     generalize mMust [59] { s6 with data := s6.data + n } = s7 at *
     try unfold cmH csC at h1
     try unfold cmH at h1
     try unfold cP at h1
     try unfold bP at h1
     try unfold tP at h1
     try unfold inG at h1
     try unfold thG at h1
     try unfold clo at h1
     try unfold cmH csC at h2
     try unfold cmH at h2
     try unfold cP at h2
     try unfold bP at h2
     try unfold tP at h2
     try unfold inG at h2
     try unfold thG at h2
     try unfold clo at h2
     try unfold cmH csC at h3
     try unfold cmH at h3
     try unfold cP at h3
     try unfold bP at h3
     try unfold tP at h3
     try unfold inG at h3
     try unfold thG at h3
     try unfold clo at h3
     try unfold cmH csC at h4
     try unfold cmH at h4
     try unfold cP at h4
     try unfold bP at h4
     try unfold tP at h4
     try unfold inG at h4
     try unfold thG at h4
     try unfold clo at h4
     try unfold cmH csC at h5
     try unfold cmH at h5
     try unfold cP at h5
     try unfold bP at h5
     try unfold tP at h5
     try unfold inG at h5
     try unfold thG at h5
     try unfold clo at h5
     try unfold cmH csC at h6
     try unfold cmH at h6
     try unfold cP at h6
     try unfold bP at h6
     try unfold tP at h6
     try unfold inG at h6
     try unfold thG at h6
     try unfold clo at h6
     try unfold cmH csC at h7
     try unfold cmH at h7
     try unfold cP at h7
     try unfold bP at h7
     try unfold tP at h7
     try unfold inG at h7
     try unfold thG at h7
     try unfold clo at h7
     try unfold cmH csC at ⊢
     try unfold cmH at ⊢
     try unfold cP at ⊢
     try unfold bP at ⊢
     try unfold tP at ⊢
     try unfold inG at ⊢
     try unfold thG at ⊢
     try unfold clo at ⊢
     refine fn_intro Tryz.func125 Tryz.ntmps125 rfl rfl rfl (fun w0 => ?_)
     try simp only [Sx.ap1, Sx.ap2, Sx.ap3]
     refine rr ?_
     refine cl (h1) ?_
     intro y hy
     try simp only [Sx.ap1, Sx.ap2, Sx.ap3]
     refine rr ?_
     intro b4 _
     refine rr ?_
     refine cl (h2 y hy) ?_
     intro z hz
     try simp only [Sx.ap1, Sx.ap2, Sx.ap3]
     refine rr ?_
     refine cl (h3 z hz) ?_
     intro y hy
     try simp only [Sx.ap1, Sx.ap2, Sx.ap3]
     refine rr ?_
     refine cl (h4 y hy) ?_
     intro z hz
     try simp only [Sx.ap1, Sx.ap2, Sx.ap3]
     refine rr ?_
     refine cl (h5 z hz) ?_
     intro y hy
     try simp only [Sx.ap1, Sx.ap2, Sx.ap3]
     refine rr ?_
     refine cl (h6 y hy) ?_
     intro z hz
     try simp only [Sx.ap1, Sx.ap2, Sx.ap3]
     refine rr ?_
     refine dr [0, 1, 2, 3, 4, 5, 6, 7, 8, 9, 10, 11] [4, 6] [0, 7] ?_
     refine rr ?_
     refine rr ?_
     refine cl (h7 z (hz.same rfl rfl rfl)) ?_
     intro y hy
     try simp only [Sx.ap1, Sx.ap2, Sx.ap3]
     refine rr ?_
     exact en y hy
 ·simp only [if_neg hb]
  have h3 := fun y hy => noC (TA := TA) (L := L) c s2 y [91] hy hb
  by_cases hc : s2.e = 0 ∧ s2.data = 32000
  ·simp only [if_pos hc]
   obtain ⟨he0, hd0⟩ := hc
   have h5 := fun y => stopC (TA := TA) (L := L) c s2 y 4 pl
   have da5 : (mStop 4 pl s2).data = s2.data := rfl
   generalize mStop 4 pl s2 = s5 at *
   have h7 := fun y hy => mustC (TA := TA) (L := L) c { s5 with data := s5.data + 1 } y [59] hy
   unfold mPay
   generalize mMust [59] { s5 with data := s5.data + 1 } = s7 at *
   try unfold cmH csC at h1
   try unfold cmH at h1
   try unfold cP at h1
   try unfold bP at h1
   try unfold tP at h1
   try unfold inG at h1
   try unfold thG at h1
   try unfold clo at h1
   try unfold cmH csC at h2
   try unfold cmH at h2
   try unfold cP at h2
   try unfold bP at h2
   try unfold tP at h2
   try unfold inG at h2
   try unfold thG at h2
   try unfold clo at h2
   try unfold cmH csC at h3
   try unfold cmH at h3
   try unfold cP at h3
   try unfold bP at h3
   try unfold tP at h3
   try unfold inG at h3
   try unfold thG at h3
   try unfold clo at h3
   try unfold cmH csC at h5
   try unfold cmH at h5
   try unfold cP at h5
   try unfold bP at h5
   try unfold tP at h5
   try unfold inG at h5
   try unfold thG at h5
   try unfold clo at h5
   try unfold cmH csC at h7
   try unfold cmH at h7
   try unfold cP at h7
   try unfold bP at h7
   try unfold tP at h7
   try unfold inG at h7
   try unfold thG at h7
   try unfold clo at h7
   try unfold cmH csC at ⊢
   try unfold cmH at ⊢
   try unfold cP at ⊢
   try unfold bP at ⊢
   try unfold tP at ⊢
   try unfold inG at ⊢
   try unfold thG at ⊢
   try unfold clo at ⊢
   refine fn_intro Tryz.func125 Tryz.ntmps125 rfl rfl rfl (fun w0 => ?_)
   try simp only [Sx.ap1, Sx.ap2, Sx.ap3]
   refine rr ?_
   refine cl (h1) ?_
   intro y hy
   try simp only [Sx.ap1, Sx.ap2, Sx.ap3]
   refine rr ?_
   intro b4 _
   refine rr ?_
   refine cl (h2 y hy) ?_
   intro z hz
   try simp only [Sx.ap1, Sx.ap2, Sx.ap3]
   refine rr ?_
   refine cl (h3 z hz) ?_
   intro y hy
   try simp only [Sx.ap1, Sx.ap2, Sx.ap3]
   refine rr ?_
   refine cl (h5 y) ?_
   intro z hz
   try simp only [Sx.ap1, Sx.ap2, Sx.ap3]
   refine rr ?_
   refine dr [0, 1, 2, 3, 4, 5, 6, 7, 8, 9, 10, 11] [4, 6] [0, 7] ?_
   refine rr ?_
   refine rr ?_
   refine cl (h7 z (hz.same rfl rfl rfl)) ?_
   intro y hy
   try simp only [Sx.ap1, Sx.ap2, Sx.ap3]
   refine rr ?_
   exact en y hy
  ·simp only [if_neg hc]
   have h7 := fun y hy => mustC (TA := TA) (L := L) c { s2 with data := s2.data + 1 } y [59] hy
   unfold mPay
   generalize mMust [59] { s2 with data := s2.data + 1 } = s7 at *
   try unfold cmH csC at h1
   try unfold cmH at h1
   try unfold cP at h1
   try unfold bP at h1
   try unfold tP at h1
   try unfold inG at h1
   try unfold thG at h1
   try unfold clo at h1
   try unfold cmH csC at h2
   try unfold cmH at h2
   try unfold cP at h2
   try unfold bP at h2
   try unfold tP at h2
   try unfold inG at h2
   try unfold thG at h2
   try unfold clo at h2
   try unfold cmH csC at h3
   try unfold cmH at h3
   try unfold cP at h3
   try unfold bP at h3
   try unfold tP at h3
   try unfold inG at h3
   try unfold thG at h3
   try unfold clo at h3
   try unfold cmH csC at h7
   try unfold cmH at h7
   try unfold cP at h7
   try unfold bP at h7
   try unfold tP at h7
   try unfold inG at h7
   try unfold thG at h7
   try unfold clo at h7
   try unfold cmH csC at ⊢
   try unfold cmH at ⊢
   try unfold cP at ⊢
   try unfold bP at ⊢
   try unfold tP at ⊢
   try unfold inG at ⊢
   try unfold thG at ⊢
   try unfold clo at ⊢
   by_cases he0 : s2.e = 0
   ·have hd0 : ¬ s2.data = 32000 := fun h => hc ⟨he0, h⟩
    refine fn_intro Tryz.func125 Tryz.ntmps125 rfl rfl rfl (fun w0 => ?_)
    try simp only [Sx.ap1, Sx.ap2, Sx.ap3]
    refine rr ?_
    refine cl (h1) ?_
    intro y hy
    try simp only [Sx.ap1, Sx.ap2, Sx.ap3]
    refine rr ?_
    intro b4 _
    refine rr ?_
    refine cl (h2 y hy) ?_
    intro z hz
    try simp only [Sx.ap1, Sx.ap2, Sx.ap3]
    refine rr ?_
    refine cl (h3 z hz) ?_
    intro y hy
    try simp only [Sx.ap1, Sx.ap2, Sx.ap3]
    refine rr ?_
    refine dr [0, 1, 2, 3, 4, 5, 6, 7, 8, 9, 10, 11] [4, 6] [0, 7] ?_
    refine rr ?_
    refine rr ?_
    refine cl (h7 y (hy.same rfl rfl rfl)) ?_
    intro z hz
    try simp only [Sx.ap1, Sx.ap2, Sx.ap3]
    refine rr ?_
    exact en z hz
   ·skip
    refine fn_intro Tryz.func125 Tryz.ntmps125 rfl rfl rfl (fun w0 => ?_)
    try simp only [Sx.ap1, Sx.ap2, Sx.ap3]
    refine rr ?_
    refine cl (h1) ?_
    intro y hy
    try simp only [Sx.ap1, Sx.ap2, Sx.ap3]
    refine rr ?_
    intro b4 _
    refine rr ?_
    refine cl (h2 y hy) ?_
    intro z hz
    try simp only [Sx.ap1, Sx.ap2, Sx.ap3]
    refine rr ?_
    refine cl (h3 z hz) ?_
    intro y hy
    try simp only [Sx.ap1, Sx.ap2, Sx.ap3]
    refine rr ?_
    refine dr [0, 1, 2, 3, 4, 5, 6, 7, 8, 9, 10, 11] [4, 6] [0, 7] ?_
    refine rr ?_
    refine rr ?_
    refine cl (h7 y (hy.same rfl rfl rfl)) ?_
    intro z hz
    try simp only [Sx.ap1, Sx.ap2, Sx.ap3]
    refine rr ?_
    exact en z hz
end Go.Proofs.YtkolmklfgbimoaaGreatDoor.Cm
namespace Go.Proofs.YtkolmklfgbimoaaGreatDoor.Cm
open Go Go.Sx Go.Sx.Chunk
set_option maxRecDepth 100000
variable {TA : Addr} {L : List (Sc.Tk × Nat)}
def DD (s : CS) : Prop := s.e = 0 → 0 ≤ s.data ∧ s.data ≤ 32000
theorem no_toks {w : List UInt8} {s : CS} (h : s.toks.length = 0) : mSees w s = false := by
 unfold mSees
 rw [List.length_eq_zero_iff.1 h]
set_option maxHeartbeats 8000000 in
theorem declsC (c N : Nat) (s : CS) (x : Ad) (hN : s.toks.length < N) (hg : GD s) (hw : wt s + 200 ≤ 1000000000000) (hd : DD s) (hx : OkX TA L s x) : FnC Tryz.prog 65 [cP c] (cmH c s x) [tkB TA L, spaceV] (fun _ => .tuple #[]) (fun y : Ad => cmH c (mDecls N s.toks.length s) y) (fun y => OkX TA L (mDecls N s.toks.length s) y) := by
 generalize hR : mDecls N s.toks.length s = R
 unfold cmH csC cP
 refine fn_intro Tryz.func65 Tryz.ntmps65 rfl rfl rfl (fun w0 => ?_)
 try simp only [Sx.ap1, Sx.ap2, Sx.ap3]
 refine rr ?_
 refine lo [0] (fun z : Nat × CS × Ad => []) (fun z => [(0, blk c (csC z.2.1 z.2.2) 80), (1, row z.2.2.ca z.2.2.cc 105 5 z.2.1.code.length (insC z.2.1.code)), (2, row z.2.2.pa z.2.2.pc 94 3 z.2.1.pats.length (paC z.2.1.pats)), (3, row z.2.2.na z.2.2.nc 274 5 z.2.1.ents.length (enC z.2.1.ents)), (4, row z.2.2.ba z.2.2.bc 3 1 z.2.1.begs.length (natC z.2.1.begs)), (5, row z.2.2.ea z.2.2.ec 154 2 z.2.1.exps.length (syC z.2.1.exps)), (6, row z.2.2.ia z.2.2.ic 9 1 z.2.1.imps.length (strC z.2.1.imps))]) (fun z => OkX TA L z.2.1 z.2.2 ∧ z.2.1.toks.length ≤ z.1 ∧ z.2.1.toks.length < N ∧ GD z.2.1 ∧ wt z.2.1 + 200 ≤ 1000000000000 ∧ DD z.2.1 ∧ mDecls N z.1 z.2.1 = R) (fun z => z.2.1.toks.length) (s.toks.length, s, x) ⟨hx, Nat.le_refl _, hN, hg, hw, hd, hR⟩ ?_
 rintro ⟨m, q, xq⟩ ⟨hxq, hm, hqN, hqg, hqw, hqd, hqR⟩ K1 hK1
 dsimp only at hxq hm hqN hqg hqw hqd hqR ⊢
 unfold csC
 by_cases he : q.e = 0
 ·cases m with
  | zero =>
   have hz : q.toks.length = 0 := by omega
   have n1 := noC (TA := TA) (L := L) c q xq [118, 97, 114] hxq (by rw [no_toks hz]; decide)
   have n2 := noC (TA := TA) (L := L) c q xq [101, 120, 116, 101, 114, 110, 97, 108] hxq (by rw [no_toks hz]; decide)
   have n3 := fun y hy => noC (TA := TA) (L := L) c q y [112, 114, 111, 99, 101, 100, 117, 114, 101] hy (by rw [no_toks hz]; decide)
   have n2 := fun y hy => noC (TA := TA) (L := L) c q y [101, 120, 116, 101, 114, 110, 97, 108] hy (by rw [no_toks hz]; decide)
   have hqR' : q = R := hqR
   subst hqR'
   try unfold cmH csC at n1
   try unfold cmH at n1
   try unfold cP at n1
   try unfold bP at n1
   try unfold tP at n1
   try unfold inG at n1
   try unfold thG at n1
   try unfold clo at n1
   try unfold cmH csC at n2
   try unfold cmH at n2
   try unfold cP at n2
   try unfold bP at n2
   try unfold tP at n2
   try unfold inG at n2
   try unfold thG at n2
   try unfold clo at n2
   try unfold cmH csC at n3
   try unfold cmH at n3
   try unfold cP at n3
   try unfold bP at n3
   try unfold tP at n3
   try unfold inG at n3
   try unfold thG at n3
   try unfold clo at n3
   refine rr ?_
   refine cl (n1) ?_
   intro y hy
   try simp only [Sx.ap1, Sx.ap2, Sx.ap3]
   refine rr ?_
   refine cl (n2 y hy) ?_
   intro z hz
   try simp only [Sx.ap1, Sx.ap2, Sx.ap3]
   refine rr ?_
   refine cl (n3 z hz) ?_
   intro y hy
   try simp only [Sx.ap1, Sx.ap2, Sx.ap3]
   refine rr ?_
   exact en y hy
  | succ m =>
   unfold mDecls at hqR
   rw [if_pos he] at hqR
   have hdd := hqd he
   by_cases h1 : mSees [118, 97, 114] q = true
   ·rw [if_pos h1] at hqR
    have n1 := yesC (TA := TA) (L := L) c q xq [118, 97, 114] hxq h1
    have e1 := ex_sees h1
    have l1 := tail_lt (sees_ne h1)
    have da1 : (mTail q).data = q.data := rfl
    generalize mTail q = q1 at *
    have w1 := e1.w
    have g1 := e1.dx.g hqg
    have n2 := fun y hy => variableC (TA := TA) (L := L) c q1 y g1 (by omega) (by omega) hy
    have d2 := e1.dx.tr (k := -97) (dx_variable q1)
    have l2 := (dx_variable q1).ln
    have hv : DD (mVariable q1) := fun h => variable_data (by omega) h
    generalize mVariable q1 = q2 at *
    have w2 := d2.w
    try unfold cmH csC at n1
    try unfold cmH at n1
    try unfold cP at n1
    try unfold bP at n1
    try unfold tP at n1
    try unfold inG at n1
    try unfold thG at n1
    try unfold clo at n1
    try unfold cmH csC at n2
    try unfold cmH at n2
    try unfold cP at n2
    try unfold bP at n2
    try unfold tP at n2
    try unfold inG at n2
    try unfold thG at n2
    try unfold clo at n2
    refine rr ?_
    refine cl (n1) ?_
    intro y hy
    try simp only [Sx.ap1, Sx.ap2, Sx.ap3]
    refine rr ?_
    refine cl (n2 y hy) ?_
    intro z hz
    try simp only [Sx.ap1, Sx.ap2, Sx.ap3]
    refine rr ?_
    exact ro hK1 (m, q2, z) ⟨hz, by dsimp only; omega, by dsimp only; omega, d2.g hqg, by dsimp only; omega, hv, hqR⟩
   ·rw [if_neg h1] at hqR
    have n1 := noC (TA := TA) (L := L) c q xq [118, 97, 114] hxq h1
    by_cases h2 : mSees [101, 120, 116, 101, 114, 110, 97, 108] q = true
    ·rw [if_pos h2] at hqR
     have n2 := fun y hy => yesC (TA := TA) (L := L) c q y [101, 120, 116, 101, 114, 110, 97, 108] hy h2
     have e1 := ex_sees h2
     have l1 := tail_lt (sees_ne h2)
     have da1 : (mTail q).data = q.data := rfl
     generalize mTail q = q1 at *
     have w1 := e1.w
     have g1 := e1.dx.g hqg
     have n3 := fun y hy => importedC (TA := TA) (L := L) c q1 y g1 (by omega) hy
     have d2 := e1.dx.tr (k := -98) (dx_imported q1)
     have l2 := (dx_imported q1).ln
     have hv : DD (mImported q1) := fun h => by rw [imported_data]; omega
     generalize mImported q1 = q2 at *
     have w2 := d2.w
     try unfold cmH csC at n1
     try unfold cmH at n1
     try unfold cP at n1
     try unfold bP at n1
     try unfold tP at n1
     try unfold inG at n1
     try unfold thG at n1
     try unfold clo at n1
     try unfold cmH csC at n2
     try unfold cmH at n2
     try unfold cP at n2
     try unfold bP at n2
     try unfold tP at n2
     try unfold inG at n2
     try unfold thG at n2
     try unfold clo at n2
     try unfold cmH csC at n3
     try unfold cmH at n3
     try unfold cP at n3
     try unfold bP at n3
     try unfold tP at n3
     try unfold inG at n3
     try unfold thG at n3
     try unfold clo at n3
     refine rr ?_
     refine cl (n1) ?_
     intro u hu
     try simp only [Sx.ap1, Sx.ap2, Sx.ap3]
     refine rr ?_
     refine cl (n2 u hu) ?_
     intro y hy
     try simp only [Sx.ap1, Sx.ap2, Sx.ap3]
     refine rr ?_
     refine cl (n3 y hy) ?_
     intro z hz
     try simp only [Sx.ap1, Sx.ap2, Sx.ap3]
     refine rr ?_
     exact ro hK1 (m, q2, z) ⟨hz, by dsimp only; omega, by dsimp only; omega, d2.g hqg, by dsimp only; omega, hv, hqR⟩
    ·rw [if_neg h2] at hqR
     have n2 := fun y hy => noC (TA := TA) (L := L) c q y [101, 120, 116, 101, 114, 110, 97, 108] hy h2
     by_cases h3 : mSees [112, 114, 111, 99, 101, 100, 117, 114, 101] q = true
     ·rw [if_pos h3] at hqR
      have n3 := fun y hy => yesC (TA := TA) (L := L) c q y [112, 114, 111, 99, 101, 100, 117, 114, 101] hy h3
      have e1 := ex_sees h3
      have l1 := tail_lt (sees_ne h3)
      have da1 : (mTail q).data = q.data := rfl
      generalize mTail q = q1 at *
      have w1 := e1.w
      have g1 := e1.dx.g hqg
      have n4 := fun y hy => routineC (TA := TA) (L := L) c N q1 y (by omega) g1 (by omega) hy
      obtain ⟨d2, w2, l2⟩ := dx_routine N q1 g1
      have hv : DD (mRoutine N q1) := fun h => by rw [routine_data]; omega
      generalize mRoutine N q1 = q2 at *
      try unfold cmH csC at n1
      try unfold cmH at n1
      try unfold cP at n1
      try unfold bP at n1
      try unfold tP at n1
      try unfold inG at n1
      try unfold thG at n1
      try unfold clo at n1
      try unfold cmH csC at n2
      try unfold cmH at n2
      try unfold cP at n2
      try unfold bP at n2
      try unfold tP at n2
      try unfold inG at n2
      try unfold thG at n2
      try unfold clo at n2
      try unfold cmH csC at n3
      try unfold cmH at n3
      try unfold cP at n3
      try unfold bP at n3
      try unfold tP at n3
      try unfold inG at n3
      try unfold thG at n3
      try unfold clo at n3
      try unfold cmH csC at n4
      try unfold cmH at n4
      try unfold cP at n4
      try unfold bP at n4
      try unfold tP at n4
      try unfold inG at n4
      try unfold thG at n4
      try unfold clo at n4
      refine rr ?_
      refine cl (n1) ?_
      intro u hu
      try simp only [Sx.ap1, Sx.ap2, Sx.ap3]
      refine rr ?_
      refine cl (n2 u hu) ?_
      intro y hy
      try simp only [Sx.ap1, Sx.ap2, Sx.ap3]
      refine rr ?_
      refine cl (n3 y hy) ?_
      intro u hu
      try simp only [Sx.ap1, Sx.ap2, Sx.ap3]
      refine rr ?_
      refine cl (n4 u hu) ?_
      intro z hz
      try simp only [Sx.ap1, Sx.ap2, Sx.ap3]
      refine rr ?_
      exact ro hK1 (m, q2, z) ⟨hz, by dsimp only; omega, by dsimp only; omega, d2, by dsimp only; omega, hv, hqR⟩
     ·rw [if_neg h3] at hqR
      have n3 := fun y hy => noC (TA := TA) (L := L) c q y [112, 114, 111, 99, 101, 100, 117, 114, 101] hy h3
      subst hqR
      try unfold cmH csC at n1
      try unfold cmH at n1
      try unfold cP at n1
      try unfold bP at n1
      try unfold tP at n1
      try unfold inG at n1
      try unfold thG at n1
      try unfold clo at n1
      try unfold cmH csC at n2
      try unfold cmH at n2
      try unfold cP at n2
      try unfold bP at n2
      try unfold tP at n2
      try unfold inG at n2
      try unfold thG at n2
      try unfold clo at n2
      try unfold cmH csC at n3
      try unfold cmH at n3
      try unfold cP at n3
      try unfold bP at n3
      try unfold tP at n3
      try unfold inG at n3
      try unfold thG at n3
      try unfold clo at n3
      refine rr ?_
      refine cl (n1) ?_
      intro u hu
      try simp only [Sx.ap1, Sx.ap2, Sx.ap3]
      refine rr ?_
      refine cl (n2 u hu) ?_
      intro y hy
      try simp only [Sx.ap1, Sx.ap2, Sx.ap3]
      refine rr ?_
      refine cl (n3 y hy) ?_
      intro u hu
      try simp only [Sx.ap1, Sx.ap2, Sx.ap3]
      refine rr ?_
      exact en u hu
 ·have hqR' : q = R := by
   cases m with
   | zero => exact hqR
   | succ m => unfold mDecls at hqR; rw [if_neg he] at hqR; exact hqR
  subst hqR'
  refine rr ?_
  exact en xq hxq
end Go.Proofs.YtkolmklfgbimoaaGreatDoor.Cm
namespace Go.Proofs.YtkolmklfgbimoaaGreatDoor.Cm
open Go Go.Sx Go.Sx.Chunk
set_option maxRecDepth 100000
variable {TA : Addr} {L : List (Sc.Tk × Nat)}
theorem dx_named (n : ByteArray) (s : CS) : Dx 0 s { s with name := n } := ⟨fun h => ⟨h.tk, h.bg, h.nm, h.so⟩, by simp only [wt]; omega, Nat.le_refl _⟩
def mLast (s5 : CS) : CS :=
 let s6 := mMust [46] (mMust [101, 110, 100] s5)
 if s6.e = 0 ∧ s6.toks ≠ [] then mStop 2 (mHere s6) s6 else s6
def mBody (N : Nat) (begin_ : Int) (s4 : CS) : CS := mPut ⟨20, 0, 0, 0, 0⟩ (mStmts N (mMark ⟨10, 29, 0, 0, 0⟩ 4 0 (mLand begin_ (mMust [98, 101, 103, 105, 110] s4))))
def mHead (s1 : CS) : CS := mOpen (mMust [59] { (mName s1).2 with name := Sc.bs (mName s1).1 })
theorem program_eq (N : Nat) (s : CS) : mProgram N s = if mSees [112, 114, 111, 103, 114, 97, 109] s = true
  then mLast (mBody N ((mHead (mTail s)).code.length : Int) (mDecls N (mJump ⟨17, 0, 0, 0, 0⟩ (mHead (mTail s))).toks.length (mJump ⟨17, 0, 0, 0, 0⟩ (mHead (mTail s)))))
  else mLast (mDecls N (mHead (mMust [109, 111, 100, 117, 108, 101] s)).toks.length (mHead (mMust [109, 111, 100, 117, 108, 101] s))) := by
 unfold mProgram
 dsimp only
 by_cases h : mSees [112, 114, 111, 103, 114, 97, 109] s = true
 ·simp only [if_pos h]; rfl
 ·simp only [if_neg h]; rfl
theorem dx_head (s1 : CS) : Dx 1 s1 (mHead s1) := (((ex_name s1).dx.tr (k := 0) (dx_named _ _)).tr (k := 0) (ex_must _ _).dx).tr (dx_open _)
theorem head_data (s1 : CS) : (mHead s1).data = s1.data := by
 unfold mHead
 show (mMust [59] _).data = _
 rw [must_data]
 exact (ex_name s1).da
set_option maxHeartbeats 16000000 in
theorem programC (c N : Nat) (s : CS) (x : Ad) (hN : s.toks.length < N) (hg : GD s) (hw : wt s + 400 ≤ 1000000000000) (hd : 0 ≤ s.data ∧ s.data ≤ 32000) (hx : OkX TA L s x) : FnC Tryz.prog 28 [cP c] (cmH c s x) [tkB TA L, spaceV] (fun _ => .tuple #[]) (fun y : Ad => cmH c (mProgram N s) y) (fun y => OkX TA L (mProgram N s) y) := by
 rw [program_eq]
 by_cases hm : mSees [112, 114, 111, 103, 114, 97, 109] s = true
 ·rw [if_pos hm]
  have h1 := yesC (TA := TA) (L := L) c s x [112, 114, 111, 103, 114, 97, 109] hx hm
  have d1 := (ex_sees hm).dx
  have da1 : (mTail s).data = s.data := rfl
  generalize mTail s = s1 at *
  have w1 := d1.w
  have hp1 := d1.ln
  have h2 := fun y hy => nameC (TA := TA) (L := L) c s1 y hy
  have d2 := d1.tr (k := -100) (ex_name s1).dx
  have d3 := d1.tr (k := -99) (dx_head s1)
  have da3 := head_data s1
  unfold mHead at *
  generalize mName s1 = a at *
  obtain ⟨an, s2⟩ := a
  dsimp only at *
  have h3 := fun y hy => mustC (TA := TA) (L := L) c { s2 with name := Sc.bs an } y [59] hy
  have d4 := (d2.tr (k := -100) (dx_named (Sc.bs an) s2)).tr (k := -100) (ex_must [59] _).dx
  generalize mMust [59] { s2 with name := Sc.bs an } = s3 at *
  have w4 := d4.w
  have h4 := fun y hy => openC (TA := TA) (L := L) c s3 y (by have := wt_begs (Int.le_refl (wt s3)); omega) hy
  generalize mOpen s3 = s4 at *
  have w5 := d3.w
  have h5 := fun y hy => jumpC (TA := TA) (L := L) c s4 y ⟨17, 0, 0, 0, 0⟩ (by have := wt_code (Int.le_refl (wt s4)); omega) (by have := wt_pats (Int.le_refl (wt s4)); omega) hy
  have d5 := d3.tr (k := -97) (ex_jump ⟨17, 0, 0, 0, 0⟩ s4).dx
  have da5 := (ex_jump ⟨17, 0, 0, 0, 0⟩ s4).da
  generalize mJump ⟨17, 0, 0, 0, 0⟩ s4 = s5 at *
  have w6 := d5.w
  have l5 := d5.ln
  have g5 := d5.g hg
  have h6 := fun y hy => declsC (TA := TA) (L := L) c N s5 y (by omega) g5 (by omega) (fun _ => by omega) hy
  obtain ⟨g6, w7, l6⟩ := dx_decls N s5.toks.length s5 g5
  generalize mDecls N s5.toks.length s5 = s6 at *
  unfold mBody
  have h7 := fun y hy => mustC (TA := TA) (L := L) c s6 y [98, 101, 103, 105, 110] hy
  have d7 := (ex_must [98, 101, 103, 105, 110] s6).dx
  generalize mMust [98, 101, 103, 105, 110] s6 = s7 at *
  have w8 := d7.w
  have h8 := fun y hy => landC (TA := TA) (L := L) c s7 y (s4.code.length : Int) (by have := wt_code (Int.le_refl (wt s4)); omega) (by have := wt_code (Int.le_refl (wt s7)); omega) hy
  have d8 := d7.tr (k := 0) (ex_land (s4.code.length : Int) s7).dx
  generalize mLand (s4.code.length : Int) s7 = s8 at *
  have w9 := d8.w
  have h9 := fun y hy => markC (TA := TA) (L := L) c s8 y ⟨10, 29, 0, 0, 0⟩ 4 0 (by have := wt_code (Int.le_refl (wt s8)); omega) (by have := wt_pats (Int.le_refl (wt s8)); omega) hy
  have d9 := d8.tr (k := 2) (ex_mark ⟨10, 29, 0, 0, 0⟩ 4 0 s8).dx
  generalize mMark ⟨10, 29, 0, 0, 0⟩ 4 0 s8 = s9 at *
  have w10 := d9.w
  have l9 := d9.ln
  have g9 := d9.g g6
  have hA := fun y hy => stmtsN (TA := TA) (L := L) c N s9 (by omega) g9.gd (by omega) y hy
  have dA := d9.tr (k := 2) (ex_stmts N s9).dx
  generalize mStmts N s9 = sA at *
  have wA := dA.w
  have hB := fun y hy => putC (TA := TA) (L := L) c sA y ⟨20, 0, 0, 0, 0⟩ (by have := wt_code (Int.le_refl (wt sA)); omega) hy
  generalize mPut ⟨20, 0, 0, 0, 0⟩ sA = sB at *
  unfold mLast
  dsimp only
  have hC := fun y hy => mustC (TA := TA) (L := L) c sB y [101, 110, 100] hy
  generalize mMust [101, 110, 100] sB = sC at *
  have hD := fun y hy => mustC (TA := TA) (L := L) c sC y [46] hy
  generalize mMust [46] sC = sD at *
  by_cases hc : sD.e = 0 ∧ sD.toks ≠ []
  ·rw [if_pos hc]
   obtain ⟨he, ht⟩ := hc
   have htl : ¬ (sD.toks.length : Int) ≤ 0 := by
    have := List.length_pos_iff.2 ht; omega
   have hE := fun y hy => hereC (TA := TA) (L := L) c sD y hy
   have hF := fun y => stopC (TA := TA) (L := L) c sD y 2 (mHere sD)
   generalize mStop 2 (mHere sD) sD = sE at *
   generalize mHere sD = pE at *
   try unfold cmH csC at h1
   try unfold cmH at h1
   try unfold cP at h1
   try unfold bP at h1
   try unfold tP at h1
   try unfold inG at h1
   try unfold thG at h1
   try unfold clo at h1
   try unfold cmH csC at h2
   try unfold cmH at h2
   try unfold cP at h2
   try unfold bP at h2
   try unfold tP at h2
   try unfold inG at h2
   try unfold thG at h2
   try unfold clo at h2
   try unfold cmH csC at h3
   try unfold cmH at h3
   try unfold cP at h3
   try unfold bP at h3
   try unfold tP at h3
   try unfold inG at h3
   try unfold thG at h3
   try unfold clo at h3
   try unfold cmH csC at h4
   try unfold cmH at h4
   try unfold cP at h4
   try unfold bP at h4
   try unfold tP at h4
   try unfold inG at h4
   try unfold thG at h4
   try unfold clo at h4
   try unfold cmH csC at h5
   try unfold cmH at h5
   try unfold cP at h5
   try unfold bP at h5
   try unfold tP at h5
   try unfold inG at h5
   try unfold thG at h5
   try unfold clo at h5
   try unfold cmH csC at h6
   try unfold cmH at h6
   try unfold cP at h6
   try unfold bP at h6
   try unfold tP at h6
   try unfold inG at h6
   try unfold thG at h6
   try unfold clo at h6
   try unfold cmH csC at h7
   try unfold cmH at h7
   try unfold cP at h7
   try unfold bP at h7
   try unfold tP at h7
   try unfold inG at h7
   try unfold thG at h7
   try unfold clo at h7
   try unfold cmH csC at h8
   try unfold cmH at h8
   try unfold cP at h8
   try unfold bP at h8
   try unfold tP at h8
   try unfold inG at h8
   try unfold thG at h8
   try unfold clo at h8
   try unfold cmH csC at h9
   try unfold cmH at h9
   try unfold cP at h9
   try unfold bP at h9
   try unfold tP at h9
   try unfold inG at h9
   try unfold thG at h9
   try unfold clo at h9
   try unfold cmH csC at hA
   try unfold cmH at hA
   try unfold cP at hA
   try unfold bP at hA
   try unfold tP at hA
   try unfold inG at hA
   try unfold thG at hA
   try unfold clo at hA
   try unfold cmH csC at hB
   try unfold cmH at hB
   try unfold cP at hB
   try unfold bP at hB
   try unfold tP at hB
   try unfold inG at hB
   try unfold thG at hB
   try unfold clo at hB
   try unfold cmH csC at hC
   try unfold cmH at hC
   try unfold cP at hC
   try unfold bP at hC
   try unfold tP at hC
   try unfold inG at hC
   try unfold thG at hC
   try unfold clo at hC
   try unfold cmH csC at hD
   try unfold cmH at hD
   try unfold cP at hD
   try unfold bP at hD
   try unfold tP at hD
   try unfold inG at hD
   try unfold thG at hD
   try unfold clo at hD
   try unfold cmH csC at hE
   try unfold cmH at hE
   try unfold cP at hE
   try unfold bP at hE
   try unfold tP at hE
   try unfold inG at hE
   try unfold thG at hE
   try unfold clo at hE
   try unfold cmH csC at hF
   try unfold cmH at hF
   try unfold cP at hF
   try unfold bP at hF
   try unfold tP at hF
   try unfold inG at hF
   try unfold thG at hF
   try unfold clo at hF
   try unfold cmH csC at ⊢
   try unfold cmH at ⊢
   try unfold cP at ⊢
   try unfold bP at ⊢
   try unfold tP at ⊢
   try unfold inG at ⊢
   try unfold thG at ⊢
   try unfold clo at ⊢
   refine fn_intro Tryz.func28 Tryz.ntmps28 rfl rfl rfl (fun w0 => ?_)
   try simp only [Sx.ap1, Sx.ap2, Sx.ap3]
   refine rr ?_
   refine cl (h1) ?_
   intro y hy
   try simp only [Sx.ap1, Sx.ap2, Sx.ap3]
   refine rr ?_
   refine cl (h2 y hy) ?_
   intro z hz
   try simp only [Sx.ap1, Sx.ap2, Sx.ap3]
   refine rr ?_
   refine cl (h3 z (hz.same rfl rfl rfl)) ?_
   intro y hy
   try simp only [Sx.ap1, Sx.ap2, Sx.ap3]
   refine rr ?_
   refine cl (h4 y hy) ?_
   intro z hz
   try simp only [Sx.ap1, Sx.ap2, Sx.ap3]
   refine rr ?_
   refine cl (h5 z hz) ?_
   intro y hy
   try simp only [Sx.ap1, Sx.ap2, Sx.ap3]
   refine rr ?_
   refine cl (h6 y hy) ?_
   intro z hz
   try simp only [Sx.ap1, Sx.ap2, Sx.ap3]
   refine rr ?_
   refine cl (h7 z hz) ?_
   intro y hy
   try simp only [Sx.ap1, Sx.ap2, Sx.ap3]
   refine rr ?_
   refine cl (h8 y hy) ?_
   intro z hz
   try simp only [Sx.ap1, Sx.ap2, Sx.ap3]
   refine rr ?_
   refine cl (h9 z hz) ?_
   intro y hy
   try simp only [Sx.ap1, Sx.ap2, Sx.ap3]
   refine rr ?_
   refine cl (hA y hy) ?_
   intro z hz
   try simp only [Sx.ap1, Sx.ap2, Sx.ap3]
   refine rr ?_
   refine cl (hB z hz) ?_
   intro y hy
   try simp only [Sx.ap1, Sx.ap2, Sx.ap3]
   refine rr ?_
   refine cl (hC y hy) ?_
   intro z hz
   try simp only [Sx.ap1, Sx.ap2, Sx.ap3]
   refine rr ?_
   refine cl (hD z hz) ?_
   intro y hy
   try simp only [Sx.ap1, Sx.ap2, Sx.ap3]
   refine rr ?_
   refine cl (hE y hy) ?_
   intro _ hz
   try simp only [Sx.ap1, Sx.ap2, Sx.ap3]
   cases hz
   refine rr ?_
   refine cl (hF y) ?_
   intro z hz
   try simp only [Sx.ap1, Sx.ap2, Sx.ap3]
   refine rr ?_
   exact en z hz
  ·rw [if_neg hc]
   try unfold cmH csC at h1
   try unfold cmH at h1
   try unfold cP at h1
   try unfold bP at h1
   try unfold tP at h1
   try unfold inG at h1
   try unfold thG at h1
   try unfold clo at h1
   try unfold cmH csC at h2
   try unfold cmH at h2
   try unfold cP at h2
   try unfold bP at h2
   try unfold tP at h2
   try unfold inG at h2
   try unfold thG at h2
   try unfold clo at h2
   try unfold cmH csC at h3
   try unfold cmH at h3
   try unfold cP at h3
   try unfold bP at h3
   try unfold tP at h3
   try unfold inG at h3
   try unfold thG at h3
   try unfold clo at h3
   try unfold cmH csC at h4
   try unfold cmH at h4
   try unfold cP at h4
   try unfold bP at h4
   try unfold tP at h4
   try unfold inG at h4
   try unfold thG at h4
   try unfold clo at h4
   try unfold cmH csC at h5
   try unfold cmH at h5
   try unfold cP at h5
   try unfold bP at h5
   try unfold tP at h5
   try unfold inG at h5
   try unfold thG at h5
   try unfold clo at h5
   try unfold cmH csC at h6
   try unfold cmH at h6
   try unfold cP at h6
   try unfold bP at h6
   try unfold tP at h6
   try unfold inG at h6
   try unfold thG at h6
   try unfold clo at h6
   try unfold cmH csC at h7
   try unfold cmH at h7
   try unfold cP at h7
   try unfold bP at h7
   try unfold tP at h7
   try unfold inG at h7
   try unfold thG at h7
   try unfold clo at h7
   try unfold cmH csC at h8
   try unfold cmH at h8
   try unfold cP at h8
   try unfold bP at h8
   try unfold tP at h8
   try unfold inG at h8
   try unfold thG at h8
   try unfold clo at h8
   try unfold cmH csC at h9
   try unfold cmH at h9
   try unfold cP at h9
   try unfold bP at h9
   try unfold tP at h9
   try unfold inG at h9
   try unfold thG at h9
   try unfold clo at h9
   try unfold cmH csC at hA
   try unfold cmH at hA
   try unfold cP at hA
   try unfold bP at hA
   try unfold tP at hA
   try unfold inG at hA
   try unfold thG at hA
   try unfold clo at hA
   try unfold cmH csC at hB
   try unfold cmH at hB
   try unfold cP at hB
   try unfold bP at hB
   try unfold tP at hB
   try unfold inG at hB
   try unfold thG at hB
   try unfold clo at hB
   try unfold cmH csC at hC
   try unfold cmH at hC
   try unfold cP at hC
   try unfold bP at hC
   try unfold tP at hC
   try unfold inG at hC
   try unfold thG at hC
   try unfold clo at hC
   try unfold cmH csC at hD
   try unfold cmH at hD
   try unfold cP at hD
   try unfold bP at hD
   try unfold tP at hD
   try unfold inG at hD
   try unfold thG at hD
   try unfold clo at hD
   try unfold cmH csC at ⊢
   try unfold cmH at ⊢
   try unfold cP at ⊢
   try unfold bP at ⊢
   try unfold tP at ⊢
   try unfold inG at ⊢
   try unfold thG at ⊢
   try unfold clo at ⊢
   by_cases he : sD.e = 0
   ·have ht : sD.toks = [] := by
     by_cases h : sD.toks = []
     ·exact h
     ·exact absurd ⟨he, h⟩ hc
    have htl : (sD.toks.length : Int) ≤ 0 := by rw [ht]; decide
    refine fn_intro Tryz.func28 Tryz.ntmps28 rfl rfl rfl (fun w0 => ?_)
    try simp only [Sx.ap1, Sx.ap2, Sx.ap3]
    refine rr ?_
    refine cl (h1) ?_
    intro y hy
    try simp only [Sx.ap1, Sx.ap2, Sx.ap3]
    refine rr ?_
    refine cl (h2 y hy) ?_
    intro z hz
    try simp only [Sx.ap1, Sx.ap2, Sx.ap3]
    refine rr ?_
    refine cl (h3 z (hz.same rfl rfl rfl)) ?_
    intro y hy
    try simp only [Sx.ap1, Sx.ap2, Sx.ap3]
    refine rr ?_
    refine cl (h4 y hy) ?_
    intro z hz
    try simp only [Sx.ap1, Sx.ap2, Sx.ap3]
    refine rr ?_
    refine cl (h5 z hz) ?_
    intro y hy
    try simp only [Sx.ap1, Sx.ap2, Sx.ap3]
    refine rr ?_
    refine cl (h6 y hy) ?_
    intro z hz
    try simp only [Sx.ap1, Sx.ap2, Sx.ap3]
    refine rr ?_
    refine cl (h7 z hz) ?_
    intro y hy
    try simp only [Sx.ap1, Sx.ap2, Sx.ap3]
    refine rr ?_
    refine cl (h8 y hy) ?_
    intro z hz
    try simp only [Sx.ap1, Sx.ap2, Sx.ap3]
    refine rr ?_
    refine cl (h9 z hz) ?_
    intro y hy
    try simp only [Sx.ap1, Sx.ap2, Sx.ap3]
    refine rr ?_
    refine cl (hA y hy) ?_
    intro z hz
    try simp only [Sx.ap1, Sx.ap2, Sx.ap3]
    refine rr ?_
    refine cl (hB z hz) ?_
    intro y hy
    try simp only [Sx.ap1, Sx.ap2, Sx.ap3]
    refine rr ?_
    refine cl (hC y hy) ?_
    intro z hz
    try simp only [Sx.ap1, Sx.ap2, Sx.ap3]
    refine rr ?_
    refine cl (hD z hz) ?_
    intro y hy
    try simp only [Sx.ap1, Sx.ap2, Sx.ap3]
    refine rr ?_
    exact en y hy
   ·skip
    refine fn_intro Tryz.func28 Tryz.ntmps28 rfl rfl rfl (fun w0 => ?_)
    try simp only [Sx.ap1, Sx.ap2, Sx.ap3]
    refine rr ?_
    refine cl (h1) ?_
    intro y hy
    try simp only [Sx.ap1, Sx.ap2, Sx.ap3]
    refine rr ?_
    refine cl (h2 y hy) ?_
    intro z hz
    try simp only [Sx.ap1, Sx.ap2, Sx.ap3]
    refine rr ?_
    refine cl (h3 z (hz.same rfl rfl rfl)) ?_
    intro y hy
    try simp only [Sx.ap1, Sx.ap2, Sx.ap3]
    refine rr ?_
    refine cl (h4 y hy) ?_
    intro z hz
    try simp only [Sx.ap1, Sx.ap2, Sx.ap3]
    refine rr ?_
    refine cl (h5 z hz) ?_
    intro y hy
    try simp only [Sx.ap1, Sx.ap2, Sx.ap3]
    refine rr ?_
    refine cl (h6 y hy) ?_
    intro z hz
    try simp only [Sx.ap1, Sx.ap2, Sx.ap3]
    refine rr ?_
    refine cl (h7 z hz) ?_
    intro y hy
    try simp only [Sx.ap1, Sx.ap2, Sx.ap3]
    refine rr ?_
    refine cl (h8 y hy) ?_
    intro z hz
    try simp only [Sx.ap1, Sx.ap2, Sx.ap3]
    refine rr ?_
    refine cl (h9 z hz) ?_
    intro y hy
    try simp only [Sx.ap1, Sx.ap2, Sx.ap3]
    refine rr ?_
    refine cl (hA y hy) ?_
    intro z hz
    try simp only [Sx.ap1, Sx.ap2, Sx.ap3]
    refine rr ?_
    refine cl (hB z hz) ?_
    intro y hy
    try simp only [Sx.ap1, Sx.ap2, Sx.ap3]
    refine rr ?_
    refine cl (hC y hy) ?_
    intro z hz
    try simp only [Sx.ap1, Sx.ap2, Sx.ap3]
    refine rr ?_
    refine cl (hD z hz) ?_
    intro y hy
    try simp only [Sx.ap1, Sx.ap2, Sx.ap3]
    refine rr ?_
    exact en y hy
 ·rw [if_neg hm]
  have h0 := noC (TA := TA) (L := L) c s x [112, 114, 111, 103, 114, 97, 109] hx hm
  have h1 := fun y hy => mustC (TA := TA) (L := L) c s y [109, 111, 100, 117, 108, 101] hy
  have d1 := (ex_must [109, 111, 100, 117, 108, 101] s).dx
  have da1 := (ex_must [109, 111, 100, 117, 108, 101] s).da
  generalize mMust [109, 111, 100, 117, 108, 101] s = s1 at *
  have w1 := d1.w
  have hp1 := d1.ln
  have h2 := fun y hy => nameC (TA := TA) (L := L) c s1 y hy
  have d2 := d1.tr (k := 0) (ex_name s1).dx
  have d3 := d1.tr (k := 1) (dx_head s1)
  have da3 := head_data s1
  unfold mHead at *
  generalize mName s1 = a at *
  obtain ⟨an, s2⟩ := a
  dsimp only at *
  have h3 := fun y hy => mustC (TA := TA) (L := L) c { s2 with name := Sc.bs an } y [59] hy
  have d4 := (d2.tr (k := 0) (dx_named (Sc.bs an) s2)).tr (k := 0) (ex_must [59] _).dx
  generalize mMust [59] { s2 with name := Sc.bs an } = s3 at *
  have w4 := d4.w
  have h4 := fun y hy => openC (TA := TA) (L := L) c s3 y (by have := wt_begs (Int.le_refl (wt s3)); omega) hy
  generalize mOpen s3 = s5 at *
  have w6 := d3.w
  have l5 := d3.ln
  have g5 := d3.g hg
  have h6 := fun y hy => declsC (TA := TA) (L := L) c N s5 y (by omega) g5 (by omega) (fun _ => by omega) hy
  generalize mDecls N s5.toks.length s5 = sB at *
  unfold mLast
  dsimp only
  have hC := fun y hy => mustC (TA := TA) (L := L) c sB y [101, 110, 100] hy
  generalize mMust [101, 110, 100] sB = sC at *
  have hD := fun y hy => mustC (TA := TA) (L := L) c sC y [46] hy
  generalize mMust [46] sC = sD at *
  by_cases hc : sD.e = 0 ∧ sD.toks ≠ []
  ·rw [if_pos hc]
   obtain ⟨he, ht⟩ := hc
   have htl : ¬ (sD.toks.length : Int) ≤ 0 := by
    have := List.length_pos_iff.2 ht; omega
   have hE := fun y hy => hereC (TA := TA) (L := L) c sD y hy
   have hF := fun y => stopC (TA := TA) (L := L) c sD y 2 (mHere sD)
   generalize mStop 2 (mHere sD) sD = sE at *
   generalize mHere sD = pE at *
   try unfold cmH csC at h0
   try unfold cmH at h0
   try unfold cP at h0
   try unfold bP at h0
   try unfold tP at h0
   try unfold inG at h0
   try unfold thG at h0
   try unfold clo at h0
   try unfold cmH csC at h1
   try unfold cmH at h1
   try unfold cP at h1
   try unfold bP at h1
   try unfold tP at h1
   try unfold inG at h1
   try unfold thG at h1
   try unfold clo at h1
   try unfold cmH csC at h2
   try unfold cmH at h2
   try unfold cP at h2
   try unfold bP at h2
   try unfold tP at h2
   try unfold inG at h2
   try unfold thG at h2
   try unfold clo at h2
   try unfold cmH csC at h3
   try unfold cmH at h3
   try unfold cP at h3
   try unfold bP at h3
   try unfold tP at h3
   try unfold inG at h3
   try unfold thG at h3
   try unfold clo at h3
   try unfold cmH csC at h4
   try unfold cmH at h4
   try unfold cP at h4
   try unfold bP at h4
   try unfold tP at h4
   try unfold inG at h4
   try unfold thG at h4
   try unfold clo at h4
   try unfold cmH csC at h6
   try unfold cmH at h6
   try unfold cP at h6
   try unfold bP at h6
   try unfold tP at h6
   try unfold inG at h6
   try unfold thG at h6
   try unfold clo at h6
   try unfold cmH csC at hC
   try unfold cmH at hC
   try unfold cP at hC
   try unfold bP at hC
   try unfold tP at hC
   try unfold inG at hC
   try unfold thG at hC
   try unfold clo at hC
   try unfold cmH csC at hD
   try unfold cmH at hD
   try unfold cP at hD
   try unfold bP at hD
   try unfold tP at hD
   try unfold inG at hD
   try unfold thG at hD
   try unfold clo at hD
   try unfold cmH csC at hE
   try unfold cmH at hE
   try unfold cP at hE
   try unfold bP at hE
   try unfold tP at hE
   try unfold inG at hE
   try unfold thG at hE
   try unfold clo at hE
   try unfold cmH csC at hF
   try unfold cmH at hF
   try unfold cP at hF
   try unfold bP at hF
   try unfold tP at hF
   try unfold inG at hF
   try unfold thG at hF
   try unfold clo at hF
   try unfold cmH csC at ⊢
   try unfold cmH at ⊢
   try unfold cP at ⊢
   try unfold bP at ⊢
   try unfold tP at ⊢
   try unfold inG at ⊢
   try unfold thG at ⊢
   try unfold clo at ⊢
   refine fn_intro Tryz.func28 Tryz.ntmps28 rfl rfl rfl (fun w0 => ?_)
   try simp only [Sx.ap1, Sx.ap2, Sx.ap3]
   refine rr ?_
   refine cl (h0) ?_
   intro z hz
   try simp only [Sx.ap1, Sx.ap2, Sx.ap3]
   refine rr ?_
   refine cl (h1 z hz) ?_
   intro y hy
   try simp only [Sx.ap1, Sx.ap2, Sx.ap3]
   refine rr ?_
   refine cl (h2 y hy) ?_
   intro z hz
   try simp only [Sx.ap1, Sx.ap2, Sx.ap3]
   refine rr ?_
   refine cl (h3 z (hz.same rfl rfl rfl)) ?_
   intro y hy
   try simp only [Sx.ap1, Sx.ap2, Sx.ap3]
   refine rr ?_
   refine cl (h4 y hy) ?_
   intro z hz
   try simp only [Sx.ap1, Sx.ap2, Sx.ap3]
   refine rr ?_
   refine cl (h6 z hz) ?_
   intro y hy
   try simp only [Sx.ap1, Sx.ap2, Sx.ap3]
   refine rr ?_
   refine cl (hC y hy) ?_
   intro z hz
   try simp only [Sx.ap1, Sx.ap2, Sx.ap3]
   refine rr ?_
   refine cl (hD z hz) ?_
   intro y hy
   try simp only [Sx.ap1, Sx.ap2, Sx.ap3]
   refine rr ?_
   refine cl (hE y hy) ?_
   intro _ hz
   try simp only [Sx.ap1, Sx.ap2, Sx.ap3]
   cases hz
   refine rr ?_
   refine cl (hF y) ?_
   intro z hz
   try simp only [Sx.ap1, Sx.ap2, Sx.ap3]
   refine rr ?_
   exact en z hz
  ·rw [if_neg hc]
   try unfold cmH csC at h0
   try unfold cmH at h0
   try unfold cP at h0
   try unfold bP at h0
   try unfold tP at h0
   try unfold inG at h0
   try unfold thG at h0
   try unfold clo at h0
   try unfold cmH csC at h1
   try unfold cmH at h1
   try unfold cP at h1
   try unfold bP at h1
   try unfold tP at h1
   try unfold inG at h1
   try unfold thG at h1
   try unfold clo at h1
   try unfold cmH csC at h2
   try unfold cmH at h2
   try unfold cP at h2
   try unfold bP at h2
   try unfold tP at h2
   try unfold inG at h2
   try unfold thG at h2
   try unfold clo at h2
   try unfold cmH csC at h3
   try unfold cmH at h3
   try unfold cP at h3
   try unfold bP at h3
   try unfold tP at h3
   try unfold inG at h3
   try unfold thG at h3
   try unfold clo at h3
   try unfold cmH csC at h4
   try unfold cmH at h4
   try unfold cP at h4
   try unfold bP at h4
   try unfold tP at h4
   try unfold inG at h4
   try unfold thG at h4
   try unfold clo at h4
   try unfold cmH csC at h6
   try unfold cmH at h6
   try unfold cP at h6
   try unfold bP at h6
   try unfold tP at h6
   try unfold inG at h6
   try unfold thG at h6
   try unfold clo at h6
   try unfold cmH csC at hC
   try unfold cmH at hC
   try unfold cP at hC
   try unfold bP at hC
   try unfold tP at hC
   try unfold inG at hC
   try unfold thG at hC
   try unfold clo at hC
   try unfold cmH csC at hD
   try unfold cmH at hD
   try unfold cP at hD
   try unfold bP at hD
   try unfold tP at hD
   try unfold inG at hD
   try unfold thG at hD
   try unfold clo at hD
   try unfold cmH csC at ⊢
   try unfold cmH at ⊢
   try unfold cP at ⊢
   try unfold bP at ⊢
   try unfold tP at ⊢
   try unfold inG at ⊢
   try unfold thG at ⊢
   try unfold clo at ⊢
   by_cases he : sD.e = 0
   ·have ht : sD.toks = [] := by
     by_cases h : sD.toks = []
     ·exact h
     ·exact absurd ⟨he, h⟩ hc
    have htl : (sD.toks.length : Int) ≤ 0 := by rw [ht]; decide
    refine fn_intro Tryz.func28 Tryz.ntmps28 rfl rfl rfl (fun w0 => ?_)
    try simp only [Sx.ap1, Sx.ap2, Sx.ap3]
    refine rr ?_
    refine cl (h0) ?_
    intro z hz
    try simp only [Sx.ap1, Sx.ap2, Sx.ap3]
    refine rr ?_
    refine cl (h1 z hz) ?_
    intro y hy
    try simp only [Sx.ap1, Sx.ap2, Sx.ap3]
    refine rr ?_
    refine cl (h2 y hy) ?_
    intro z hz
    try simp only [Sx.ap1, Sx.ap2, Sx.ap3]
    refine rr ?_
    refine cl (h3 z (hz.same rfl rfl rfl)) ?_
    intro y hy
    try simp only [Sx.ap1, Sx.ap2, Sx.ap3]
    refine rr ?_
    refine cl (h4 y hy) ?_
    intro z hz
    try simp only [Sx.ap1, Sx.ap2, Sx.ap3]
    refine rr ?_
    refine cl (h6 z hz) ?_
    intro y hy
    try simp only [Sx.ap1, Sx.ap2, Sx.ap3]
    refine rr ?_
    refine cl (hC y hy) ?_
    intro z hz
    try simp only [Sx.ap1, Sx.ap2, Sx.ap3]
    refine rr ?_
    refine cl (hD z hz) ?_
    intro y hy
    try simp only [Sx.ap1, Sx.ap2, Sx.ap3]
    refine rr ?_
    exact en y hy
   ·skip
    refine fn_intro Tryz.func28 Tryz.ntmps28 rfl rfl rfl (fun w0 => ?_)
    try simp only [Sx.ap1, Sx.ap2, Sx.ap3]
    refine rr ?_
    refine cl (h0) ?_
    intro z hz
    try simp only [Sx.ap1, Sx.ap2, Sx.ap3]
    refine rr ?_
    refine cl (h1 z hz) ?_
    intro y hy
    try simp only [Sx.ap1, Sx.ap2, Sx.ap3]
    refine rr ?_
    refine cl (h2 y hy) ?_
    intro z hz
    try simp only [Sx.ap1, Sx.ap2, Sx.ap3]
    refine rr ?_
    refine cl (h3 z (hz.same rfl rfl rfl)) ?_
    intro y hy
    try simp only [Sx.ap1, Sx.ap2, Sx.ap3]
    refine rr ?_
    refine cl (h4 y hy) ?_
    intro z hz
    try simp only [Sx.ap1, Sx.ap2, Sx.ap3]
    refine rr ?_
    refine cl (h6 z hz) ?_
    intro y hy
    try simp only [Sx.ap1, Sx.ap2, Sx.ap3]
    refine rr ?_
    refine cl (hC y hy) ?_
    intro z hz
    try simp only [Sx.ap1, Sx.ap2, Sx.ap3]
    refine rr ?_
    refine cl (hD z hz) ?_
    intro y hy
    try simp only [Sx.ap1, Sx.ap2, Sx.ap3]
    refine rr ?_
    exact en y hy
end Go.Proofs.YtkolmklfgbimoaaGreatDoor.Cm
namespace Go.Proofs.YtkolmklfgbimoaaGreatDoor.Sc
open Go
set_option maxRecDepth 100000
theorem numL_le : ∀ (l : List UInt8) (n : Int), n ≤ 32767 → numL l n ≤ 32767
 | [], n, h => h
 | b :: l, n, h => by
  simp only [numL]
  split
  ·decide
  ·exact numL_le l _ (by omega)
theorem scanD_len : ∀ (n p : Nat) (l : List UInt8), l.length ≤ n → (scanD p l).1.length ≤ l.length
 | n, p, [], _ => Nat.le_refl _
 | 0, p, c :: r, h => by simp at h
 | n + 1, p, c :: r, h => by
  rw [scanD_cons]
  simp only [List.length_cons, Nat.add_le_add_iff_right] at h
  split
  ·have := scanD_len n (p + 1) r h; simp; omega
  ·split
   ·split
    ·simp
    ·refine Nat.le_trans (scanD_len n _ _ (by simp; omega)) (by simp; omega)
   ·split
    ·simp
    ·rename_i he
     have := tokR_len (c := c) (r := r) (by simpa using he)
     unfold consT
     split
     ·have := scanD_len n (p + (tokR (c :: r)).2.1) ((c :: r).drop (tokR (c :: r)).2.1) (by simp; omega)
      simp only [List.length_cons, List.length_drop] at this ⊢
      simp only [List.length_cons] at *
      omega
     ·simp
structure OkT (t : Tk) : Prop where
 num : 0 ≤ t.num ∧ t.num ≤ 32767
 kind : t.kind = 1 ∨ t.kind = 2 ∨ t.kind = 3
 len : t.kind = 1 → 1 ≤ t.text.length ∧ t.text.length ≤ 16
 two : t.kind = 2 → t.text = []
theorem tokR_ok {c : UInt8} {r : List UInt8} (h : (tokR (c :: r)).2.2 = 0) : OkT (tokR (c :: r)).1 := by
 unfold tokR at h ⊢
 dsimp only at h ⊢
 split
 ·rename_i hl
  rw [if_pos hl] at h
  split
  ·rename_i h16; rw [if_pos h16] at h; exact absurd h (by decide)
  ·rename_i h16
   refine ⟨⟨Int.le_refl 0, (by decide : (0 : Int) ≤ 32767)⟩, .inl rfl, fun _ => ?_, fun h => absurd (show (1 : Int) = 2 from h) (by decide)⟩
   have h1 : 1 ≤ runL isLD (c :: r) := runL_pos (by simp [isLD, hl])
   have h2 := runL_le isLD (c :: r)
   simp only [List.length_map, List.length_take]
   omega
 ·rename_i hl
  rw [if_neg hl] at h
  split
  ·rename_i hd
   rw [if_pos hd] at h
   split
   ·rename_i hn; rw [if_pos hn] at h; exact absurd h (by decide)
   ·rename_i hn
    exact ⟨⟨by dsimp only; omega, numL_le _ _ (by decide)⟩, .inr (.inl rfl), fun h => absurd (show (2 : Int) = 1 from h) (by decide), fun _ => rfl⟩
  ·rename_i hd
   rw [if_neg hd] at h
   split
   ·rename_i hs; rw [if_pos hs] at h; exact absurd h (by decide)
   ·exact ⟨⟨Int.le_refl 0, (by decide : (0 : Int) ≤ 32767)⟩, .inr (.inr rfl), fun h => absurd (show (3 : Int) = 1 from h) (by decide), fun h => absurd (show (3 : Int) = 2 from h) (by decide)⟩
theorem scanD_ok : ∀ (n p : Nat) (l : List UInt8), l.length ≤ n → ∀ t ∈ (scanD p l).1, OkT t.1
 | n, p, [], _, t, ht => by simp [scanD_nil] at ht
 | 0, p, c :: r, h, t, ht => by simp at h
 | n + 1, p, c :: r, h, t, ht => by
  rw [scanD_cons] at ht
  simp only [List.length_cons, Nat.add_le_add_iff_right] at h
  split at ht
  ·exact scanD_ok n _ _ h t ht
  ·split at ht
   ·split at ht
    ·simp at ht
    ·exact scanD_ok n _ _ (by simp; omega) t ht
   ·split at ht
    ·simp at ht
    ·rename_i he
     have he' : (tokR (c :: r)).2.2 = 0 := by simpa using he
     have hl := tokR_len he'
     unfold consT at ht
     split at ht
     ·rcases List.mem_cons.1 ht with rfl | ht
      ·exact tokR_ok he'
      ·exact scanD_ok n _ _ (by simp only [List.length_drop, List.length_cons] at *; omega) t ht
     ·simp at ht
end Go.Proofs.YtkolmklfgbimoaaGreatDoor.Sc
namespace Go.Proofs.YtkolmklfgbimoaaGreatDoor.Cm
open Go Go.Sx Go.Sx.Chunk
set_option maxRecDepth 100000
variable {TA : Addr} {L : List (Sc.Tk × Nat)}
theorem dx_program (N : Nat) (s : CS) (hg : GD s) : wt (mProgram N s) ≤ wt s + 10 := by
 rw [program_eq]
 have hl : ∀ q, wt (mLast q) ≤ wt q := fun q => by
  unfold mLast
  dsimp only
  have h := ((ex_must [101, 110, 100] q).tr (k := 0) (ex_must [46] _))
  split
  ·have := (h.tr (k := 0) (ex_stop 2 (mHere (mMust [46] (mMust [101, 110, 100] q))) _)).w; omega
  ·have := h.w; omega
 split
 ·rename_i hm
  have d1 := ((ex_sees hm).dx.tr (k := -99) (dx_head _)).tr (k := -97) (ex_jump ⟨17, 0, 0, 0, 0⟩ _).dx
  obtain ⟨g, w, ln⟩ := dx_decls N (mJump ⟨17, 0, 0, 0, 0⟩ (mHead (mTail s))).toks.length _ (d1.g hg)
  have w1 := d1.w
  refine Int.le_trans (hl _) ?_
  unfold mBody
  have d2 := ((((ex_must [98, 101, 103, 105, 110] (mDecls N (mJump ⟨17, 0, 0, 0, 0⟩ (mHead (mTail s))).toks.length (mJump ⟨17, 0, 0, 0, 0⟩ (mHead (mTail s))))).tr (k := 0) (ex_land ((mHead (mTail s)).code.length : Int) _)).tr (k := 2) (ex_mark ⟨10, 29, 0, 0, 0⟩ 4 0 _)).tr (k := 2) (ex_stmts N _)).tr (k := 3) (ex_put ⟨20, 0, 0, 0, 0⟩ _)
  have := d2.w
  omega
 ·have d1 := (ex_must [109, 111, 100, 117, 108, 101] s).dx.tr (k := 1) (dx_head _)
  obtain ⟨g, w, ln⟩ := dx_decls N (mHead (mMust [109, 111, 100, 117, 108, 101] s)).toks.length _ (d1.g hg)
  have w1 := d1.w
  have := hl (mDecls N (mHead (mMust [109, 111, 100, 117, 108, 101] s)).toks.length (mHead (mMust [109, 111, 100, 117, 108, 101] s)))
  omega
def ob0 : Ob6 := ⟨.empty, [], 0, [], [], []⟩
def compO (s : List UInt8) : Ob6 := (compF s).1.getD ob0
theorem comp_len (s : List UInt8) : (compO s).code.length ≤ 4096 := by
 unfold compO compF
 generalize Sc.scanD 0 s = r
 obtain ⟨l, pl, e⟩ := r
 dsimp only
 by_cases he : e ≠ 0
 ·simp only [if_pos he]; exact Nat.zero_le _
 ·simp only [if_neg he]
  generalize mProgram (l.length + 1) (cs0 l (s.length : Int)) = q
  by_cases hA : q.e = 0 ∧ q.code.length > 4096
  ·rw [if_pos hA, if_pos (stop_e _ _ _ (by decide))]; exact Nat.zero_le _
  ·rw [if_neg hA]
   by_cases hB : q.e ≠ 0
   ·rw [if_pos hB]; exact Nat.zero_le _
   ·rw [if_neg hB]
    show q.code.length ≤ 4096
    have hB2 : q.e = 0 := by simpa using hB
    have : ¬ q.code.length > 4096 := fun h => hA ⟨hB2, h⟩
    omega
def csX (s : CS) (x : Ad) (oc : Option Addr) (on : Nat) (ok : Nat) (pc : Option Addr) (pn pk : Nat) : List Value := [.slice x.ta s.toks.length x.tc, .int .i64 s.en, .slice x.ca s.code.length x.cc, .slice x.pa s.pats.length x.pc, .int .i64 (s.taken : Int), .slice x.na s.ents.length x.nc, .slice x.ba s.begs.length x.bc, .string s.name, .slice oc on ok, .int .i64 s.data, .slice x.ea s.exps.length x.ec, .slice x.ia s.imps.length x.ic, .slice pc pn pk, .int .i64 s.e, .int .i64 s.bad, .int .i64 (s.fac : Int), .int .i64 (s.nest : Int)]
theorem stopX (c : Nat) (s : CS) (x : Ad) (e pl : Int) (oc : Option Addr) (on ok : Nat) (pc : Option Addr) (pn pk : Nat) : FnC (α := Unit) Tryz.prog 31 [cP c, .int .i64 e, .int .i64 pl] [blk c (csX s x oc on ok pc pn pk) 80] [] (fun _ => .tuple #[]) (fun _ => [blk c (csX (mStop e pl s) { x with ta := none, tc := 0 } oc on ok pc pn pk) 80]) (fun _ => True) := by
 unfold csX cP
 refine fn_intro Tryz.func31 Tryz.ntmps31 rfl rfl rfl (fun w0 => ?_)
 try simp only [Sx.ap1, Sx.ap2, Sx.ap3]
 by_cases h : s.e = 0
 ·skip
  refine rr ?_
  exact en () trivial (hp := by unfold mStop; simp only [if_pos h]; (repeat (first | exact Has.nil | (apply Has.cons; focus ((repeat (first | exact pick_here | apply pick_there)); done)) | apply Has.nrow | apply Has.gen0)))
 ·skip
  refine rr ?_
  exact en () trivial (hp := by unfold mStop; simp only [if_neg h]; (repeat (first | exact Has.nil | (apply Has.cons; focus ((repeat (first | exact pick_here | apply pick_there)); done)) | apply Has.nrow | apply Has.gen0)))
structure Ax where
 mk ::
 (ca : Option Addr) (cc : Nat) (pa : Option Addr) (pc : Nat) (ea : Option Addr) (ec : Nat) (ia : Option Addr) (ic : Nat)
def o6V (o : Ob6) (x : Ax) : List Value := [.string o.name, .slice x.ca o.code.length x.cc, .int .i64 o.data, .slice x.ea o.exps.length x.ec, .slice x.ia o.imps.length x.ic, .slice x.pa o.pats.length x.pc]
def o6G (o : Ob6) (x : Ax) : Value := .agg #[.string o.name, .slice x.ca o.code.length x.cc, .int .i64 o.data, .slice x.ea o.exps.length x.ec, .slice x.ia o.imps.length x.ic, .slice x.pa o.pats.length x.pc]
def o6H (o : Ob6) (x : Ax) : List Chunk := [row x.ca x.cc 105 5 o.code.length (insC o.code), row x.pa x.pc 94 3 o.pats.length (paC o.pats), row x.ea x.ec 154 2 o.exps.length (syC o.exps), row x.ia x.ic 9 1 o.imps.length (strC o.imps)]
set_option maxHeartbeats 16000000 in
theorem compileC (s : ByteArray) (hs : s.size ≤ 1000000) : FnC Tryz.prog 13 [.string s] [] [spaceV] (fun x : Ax => .tuple #[o6G (compO (Sc.txt s)) x, .int .i64 (compF (Sc.txt s)).2.1, .int .i64 (compF (Sc.txt s)).2.2]) (fun x : Ax => o6H (compO (Sc.txt s)) x) (fun _ => True) := by
 have h1 := Sc.scanC s hs
 have hlen := Sc.scanD_len _ 0 (Sc.txt s) (Nat.le_refl _)
 have hok := Sc.scanD_ok _ 0 (Sc.txt s) (Nat.le_refl _)
 rw [Sc.txt_len] at hlen
 unfold compO compF
 rw [Sc.txt_len]
 generalize Sc.scanD 0 (Sc.txt s) = r at *
 obtain ⟨l, pl, e⟩ := r
 unfold Sc.scanV at h1
 dsimp only at *
 by_cases he : e ≠ 0
 ·simp only [if_pos he]
  unfold o6G o6H ob0
  refine fn_intro Tryz.func13 Tryz.ntmps13 rfl rfl rfl (fun w0 => ?_)
  try simp only [Sx.ap1, Sx.ap2, Sx.ap3]
  refine rr ?_
  intro b2 _
  refine rr ?_
  refine cl (h1) ?_
  intro x _
  try simp only [Sx.ap1, Sx.ap2, Sx.ap3]
  refine rr ?_
  exact en ⟨none, 0, none, 0, none, 0, none, 0⟩ trivial
 ·simp only [if_neg he]
  refine fn_intro Tryz.func13 Tryz.ntmps13 rfl rfl rfl (fun w0 => ?_)
  try simp only [Sx.ap1, Sx.ap2, Sx.ap3]
  refine rr ?_
  intro b2 _
  refine rr ?_
  refine cl (h1) ?_
  intro x _
  try simp only [Sx.ap1, Sx.ap2, Sx.ap3]
  obtain ⟨ta, tc⟩ := x
  dsimp only
  refine rr ?_
  intro c _
  refine rr ?_
  have hg0 : GD (cs0 l (s.size : Int)) := ⟨Nat.zero_le _, by simp [cs0], fun t ht => ⟨(hok t ht).num.1, (hok t ht).num.2⟩, by simp [cs0]⟩
  have hw0 : wt (cs0 l (s.size : Int)) ≤ 100000000 := by simp [wt, cs0]; omega
  have hwP := dx_program (l.length + 1) _ hg0
  refine w_use (fun w hw => (hw.pick 1 rfl).row_cap) fun hcap => ?_
  have h2 := fun TA hx => programC (TA := TA) (L := l) c (l.length + 1) (cs0 l (s.size : Int)) ⟨ta, tc, none, 0, none, 0, none, 0, none, 0, none, 0, none, 0⟩ (by simp [cs0]) hg0 (by omega) (by simp [cs0]) hx
  generalize mProgram (l.length + 1) (cs0 l (s.size : Int)) = sP at *
  have hcn := wt_code (Int.le_refl (wt sP))
  have hpn := wt_pats (Int.le_refl (wt sP))
  have h3 := fun y => codeC c sP y (by omega)
  have h4 := fun y => patchesC c sP y (by omega)
  have h5 := fun y e pl oc on ok pc pn pk => stopX c sP y e pl oc on ok pc pn pk
  unfold tkB at h2
  try unfold cmH csC at h2
  try unfold cmH at h2
  try unfold cP at h2
  try unfold bP at h2
  try unfold tP at h2
  try unfold inG at h2
  try unfold thG at h2
  try unfold clo at h2
  try unfold cmH csC at h3
  try unfold cmH at h3
  try unfold cP at h3
  try unfold bP at h3
  try unfold tP at h3
  try unfold inG at h3
  try unfold thG at h3
  try unfold clo at h3
  try unfold cmH csC at h4
  try unfold cmH at h4
  try unfold cP at h4
  try unfold bP at h4
  try unfold tP at h4
  try unfold inG at h4
  try unfold thG at h4
  try unfold clo at h4
  unfold csX at h5
  unfold o6G o6H
  by_cases hA : sP.e = 0 ∧ sP.code.length > 4096
  ·rw [if_pos hA]
   obtain ⟨hA1, hA2⟩ := hA
   rw [if_pos (show (mStop 4 (s.size : Int) sP).e ≠ 0 from stop_e _ _ _ (by decide))]
   have hst : (mStop 4 (s.size : Int) sP).e = 4 ∧ (mStop 4 (s.size : Int) sP).bad = (s.size : Int) := by simp [mStop, hA1]
   rcases l with _ | ⟨t, l⟩
   ·skip
    refine cl (h2 ⟨0, 0, none⟩ (OkX.none rfl)) ?_
    intro y hy
    try simp only [Sx.ap1, Sx.ap2, Sx.ap3]
    refine rr ?_
    refine dx [0, 1, 2, 3, 4, 6, 7, 8, 5, 9, 10, 11, 12, 13, 14, 15, 16, 17] [] [] ?_
    refine rr ?_
    refine cle (h3 y) ?_
    intro z _
    try simp only [Sx.ap1, Sx.ap2, Sx.ap3]
    refine rr ?_
    refine cle (h4 y) ?_
    intro u _
    try simp only [Sx.ap1, Sx.ap2, Sx.ap3]
    refine rr ?_
    refine cl (h5 y 4 (s.size : Int) z.1 sP.code.length z.2 u.1 sP.pats.length u.2) ?_
    intro _ _
    try simp only [Sx.ap1, Sx.ap2, Sx.ap3]
    refine rr ?_
    refine dr [0, 1, 2, 3, 4, 5, 6, 7, 8, 9, 10, 11] [4, 8] [0] ?_
    refine rr ?_
    exact en ⟨none, 0, none, 0, none, 0, none, 0⟩ trivial
   ·skip
    refine w_use (fun w hw => (hw.pick 1 rfl).row_some (by first | omega | decide | (simp; done) | (simp <;> omega))) ?_
    rintro ⟨g1, rfl⟩
    refine cl (h2 ⟨g1, 0, none⟩ ⟨fun _ => ⟨0, rfl, rfl⟩, hcap⟩) ?_
    intro y hy
    try simp only [Sx.ap1, Sx.ap2, Sx.ap3]
    refine rr ?_
    refine dx [0, 1, 2, 3, 4, 6, 7, 8, 5, 9, 10, 11, 12, 13, 14, 15, 16, 17] [] [] ?_
    refine rr ?_
    refine cle (h3 y) ?_
    intro z _
    try simp only [Sx.ap1, Sx.ap2, Sx.ap3]
    refine rr ?_
    refine cle (h4 y) ?_
    intro u _
    try simp only [Sx.ap1, Sx.ap2, Sx.ap3]
    refine rr ?_
    refine cl (h5 y 4 (s.size : Int) z.1 sP.code.length z.2 u.1 sP.pats.length u.2) ?_
    intro _ _
    try simp only [Sx.ap1, Sx.ap2, Sx.ap3]
    refine rr ?_
    refine dr [0, 1, 2, 3, 4, 5, 6, 7, 8, 9, 10, 11] [4, 8] [0] ?_
    refine rr ?_
    exact en ⟨none, 0, none, 0, none, 0, none, 0⟩ trivial
  ·rw [if_neg hA]
   by_cases hB : sP.e ≠ 0
   ·rw [if_pos hB]
    rcases l with _ | ⟨t, l⟩
    ·skip
     refine cl (h2 ⟨0, 0, none⟩ (OkX.none rfl)) ?_
     intro y hy
     try simp only [Sx.ap1, Sx.ap2, Sx.ap3]
     refine rr ?_
     refine dx [0, 1, 2, 3, 4, 6, 7, 8, 5, 9, 10, 11, 12, 13, 14, 15, 16, 17] [] [] ?_
     refine rr ?_
     refine cle (h3 y) ?_
     intro z _
     try simp only [Sx.ap1, Sx.ap2, Sx.ap3]
     refine rr ?_
     refine cle (h4 y) ?_
     intro u _
     try simp only [Sx.ap1, Sx.ap2, Sx.ap3]
     refine rr ?_
     refine dr [0, 1, 2, 3, 4, 5, 6, 7, 8, 9, 10, 11] [4, 8] [0] ?_
     refine rr ?_
     exact en ⟨none, 0, none, 0, none, 0, none, 0⟩ trivial
    ·skip
     refine w_use (fun w hw => (hw.pick 1 rfl).row_some (by first | omega | decide | (simp; done) | (simp <;> omega))) ?_
     rintro ⟨g1, rfl⟩
     refine cl (h2 ⟨g1, 0, none⟩ ⟨fun _ => ⟨0, rfl, rfl⟩, hcap⟩) ?_
     intro y hy
     try simp only [Sx.ap1, Sx.ap2, Sx.ap3]
     refine rr ?_
     refine dx [0, 1, 2, 3, 4, 6, 7, 8, 5, 9, 10, 11, 12, 13, 14, 15, 16, 17] [] [] ?_
     refine rr ?_
     refine cle (h3 y) ?_
     intro z _
     try simp only [Sx.ap1, Sx.ap2, Sx.ap3]
     refine rr ?_
     refine cle (h4 y) ?_
     intro u _
     try simp only [Sx.ap1, Sx.ap2, Sx.ap3]
     refine rr ?_
     refine dr [0, 1, 2, 3, 4, 5, 6, 7, 8, 9, 10, 11] [4, 8] [0] ?_
     refine rr ?_
     exact en ⟨none, 0, none, 0, none, 0, none, 0⟩ trivial
   ·rw [if_neg hB]
    have hB2 : sP.e = 0 := by simpa using hB
    have hC2 : ¬ (sP.code.length : Int) > 4096 := fun h => hA ⟨hB2, by omega⟩
    rcases l with _ | ⟨t, l⟩
    ·skip
     refine cl (h2 ⟨0, 0, none⟩ (OkX.none rfl)) ?_
     intro y hy
     try simp only [Sx.ap1, Sx.ap2, Sx.ap3]
     refine rr ?_
     refine dx [0, 1, 2, 3, 4, 6, 7, 8, 5, 9, 10, 11, 12, 13, 14, 15, 16, 17] [] [] ?_
     refine rr ?_
     refine cle (h3 y) ?_
     intro z _
     try simp only [Sx.ap1, Sx.ap2, Sx.ap3]
     refine rr ?_
     refine cle (h4 y) ?_
     intro u _
     try simp only [Sx.ap1, Sx.ap2, Sx.ap3]
     refine rr ?_
     exact en ⟨z.1, z.2, u.1, u.2, y.ea, y.ec, y.ia, y.ic⟩ trivial
    ·skip
     refine w_use (fun w hw => (hw.pick 1 rfl).row_some (by first | omega | decide | (simp; done) | (simp <;> omega))) ?_
     rintro ⟨g1, rfl⟩
     refine cl (h2 ⟨g1, 0, none⟩ ⟨fun _ => ⟨0, rfl, rfl⟩, hcap⟩) ?_
     intro y hy
     try simp only [Sx.ap1, Sx.ap2, Sx.ap3]
     refine rr ?_
     refine dx [0, 1, 2, 3, 4, 6, 7, 8, 5, 9, 10, 11, 12, 13, 14, 15, 16, 17] [] [] ?_
     refine rr ?_
     refine cle (h3 y) ?_
     intro z _
     try simp only [Sx.ap1, Sx.ap2, Sx.ap3]
     refine rr ?_
     refine cle (h4 y) ?_
     intro u _
     try simp only [Sx.ap1, Sx.ap2, Sx.ap3]
     refine rr ?_
     exact en ⟨z.1, z.2, u.1, u.2, y.ea, y.ec, y.ia, y.ic⟩ trivial
end Go.Proofs.YtkolmklfgbimoaaGreatDoor.Cm

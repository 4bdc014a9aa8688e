/- The reference's Take: the walk. -/
import Derived.Test.YtgmegfmabkkaoaaRf2
namespace Go.Proofs.Ytgmegfmabkkaoaa
open Go Go.Sx Go.Sx.Chunk
set_option linter.unusedVariables false
set_option linter.unusedSimpArgs false

def rCode (l : List UInt8) : Nat → Int → List In → Option (List In × Int)
  | 0, a, acc => some (acc, a)
  | n + 1, a, acc => if decOk (numP l a 4) then rCode l n (a + 4) (acc ++ [decF (numP l a 4)]) else none
def rEx (l : List UInt8) : Nat → Int → List Sy → Option (List Sy × Int)
  | 0, a, acc => some (acc, a)
  | n + 1, a, acc => if (textP l a).2 < 0 then none else rEx l n ((textP l a).2 + 4) (acc ++ [⟨mkB (textP l a).1, numP l (textP l a).2 4⟩])
def rIm (l : List UInt8) : Nat → Int → List ByteArray → Option (List ByteArray × Int)
  | 0, a, acc => some (acc, a)
  | n + 1, a, acc => if (textP l a).2 < 0 then none else rIm l n (textP l a).2 (acc ++ [mkB (textP l a).1])
def rPa (l : List UInt8) : Nat → Int → List Pa → List Pa
  | 0, a, acc => acc
  | n + 1, a, acc => rPa l n (a + 6) (acc ++ [⟨numP l a 4, numP l (a + 4) 1, numP l (a + 5) 1⟩])
/-- Behind the imports. -/
def rT4 (l : List UInt8) (nm : ByteArray) (code : List In) (data : Int) (exps : List Sy) : Option (List ByteArray × Int) → Option Ob
  | none => none
  | some (imps, a) => if numP l a 4 < 0 ∨ a + 4 + 6 * numP l a 4 ≠ (l.length : Int) then none
    else if goodO ⟨nm, none, 0, code, data, none, 0, exps, none, 0, imps, none, 0, rPa l (numP l a 4).toNat (a + 4) []⟩ then some ⟨nm, none, 0, code, data, none, 0, exps, none, 0, imps, none, 0, rPa l (numP l a 4).toNat (a + 4) []⟩ else none
def rT3 (l : List UInt8) (nm : ByteArray) (code : List In) (data : Int) : Option (List Sy × Int) → Option Ob
  | none => none
  | some (exps, a) => rT4 l nm code data exps (rIm l (numP l a 1).toNat (a + 1) [])
def rT2 (l : List UInt8) (nm : ByteArray) : Option (List In × Int) → Option Ob
  | none => none
  | some (code, a) => rT3 l nm code (numP l a 4) (rEx l (numP l (a + 4) 1).toNat (a + 5) [])
def rTake (l : List UInt8) : Option Ob :=
  if (l.length : Int) < 2 ∨ ¬ mkB (l.take 2) = mkB dsF then none
  else if numP l (textP l 2).2 4 < 0 ∨ (l.length : Int) < (textP l 2).2 + 4 + 4 * numP l (textP l 2).2 4 then none
  else rT2 l (mkB (textP l 2).1) (rCode l (numP l (textP l 2).2 4).toNat ((textP l 2).2 + 4) [])
def obR2 (o : Ob) : List Chunk := [row o.ca o.cc 63 5 o.code.length (insC o.code), row o.ea o.ec 52 2 o.exps.length (syC o.exps), row o.ia o.ic 9 1 o.imps.length (strC o.imps), row o.pa o.pc 55 3 o.pats.length (paC o.pats)]
theorem textP_range {l : List UInt8} {a : Int} : (textP l a).2 = -1 ∨ (0 ≤ (textP l a).2 ∧ (textP l a).2 ≤ l.length) := by
  unfold textP
  split
  · exact .inl rfl
  · rename_i h
    right
    have ha : 0 ≤ a := by
      have : ¬ numP l a 1 < 0 := fun h' => h (.inl h')
      unfold numP at this
      split at this
      · exact absurd (by omega) this
      · omega
    dsimp only
    omega
theorem textP_len (l : List UInt8) (a : Int) : (textP l a).1.length ≤ l.length := by
  unfold textP
  split
  · exact Nat.zero_le _
  · dsimp only; rw [List.length_take, List.length_drop]; omega
set_option maxHeartbeats 8000000 in
theorem takeRfC (l : List UInt8) (hl : l.length ≤ 1000000) : FnC Try.prog 20 [.string (mkB l)] [] [] (fun o : Ob => .tuple #[obG o, .bool (rTake l).isSome]) obR2 (fun o => canon o = (rTake l).getD emptyO) := by
  have hm : maxLen = 9223372036854775807 := rfl
  have hsz := mkB_size l
  have e0 : canon emptyO = emptyO := rfl
  refine fn_intro Try.func20 Try.ntmps20 rfl rfl rfl (fun w0 => ?_)
  try simp only [List.cons_append, List.nil_append, List.append_nil]
  by_cases h1 : (l.length : Int) < 2
  · have hr : rTake l = none := by unfold rTake; rw [if_pos (.inl h1)]
    rw [hr]
    refine rr ?_
    intro b2 _
    refine rr ?_
    intro b4 _
    refine rr ?_
    exact en emptyO e0
  have hx := mkB_take l 2
  by_cases h2 : mkB (l.take 2) = mkB dsF
  rotate_left
  · have hr : rTake l = none := by unfold rTake; rw [if_pos (.inr h2)]
    have hd : (!decide ((mkB l).extract 0 (2 : Int).toNat = mkB dsF)) = true := by rw [show (2 : Int).toNat = 2 from rfl, hx, decide_eq_false h2]; rfl
    rw [hr]
    refine rr ?_
    intro b2 _
    refine rr ?_
    intro b4 _
    refine rr ?_
    exact en emptyO e0
  have hd : (!decide ((mkB l).extract 0 (2 : Int).toNat = mkB dsF)) = false := by rw [show (2 : Int).toNat = 2 from rfl, hx, decide_eq_true h2]; rfl
  have hr0 : rTake l = if numP l (textP l 2).2 4 < 0 ∨ (l.length : Int) < (textP l 2).2 + 4 + 4 * numP l (textP l 2).2 4 then none else rT2 l (mkB (textP l 2).1) (rCode l (numP l (textP l 2).2 4).toNat ((textP l 2).2 + 4) []) := by
    unfold rTake
    rw [if_neg (by rintro (h | h); exact h1 h; exact h h2)]
  rw [hr0]
  clear hr0
  refine rr ?_
  intro b2 _
  refine rr ?_
  intro b4 _
  refine rr ?_
  clear hd h2 hx
  refine cl (textRfC l 2 (by omega) hl) ?_
  intro _ _
  try simp only [List.cons_append, List.nil_append, List.append_nil]
  have tr := textP_range (l := l) (a := 2)
  have tl := textP_len l 2
  obtain ⟨⟨nm, a0⟩, ht⟩ : ∃ p, p = textP l 2 := ⟨_, rfl⟩
  rw [← ht] at tr tl ⊢
  dsimp only at tr tl ⊢
  refine rr ?_
  refine cl (numRfC l a0 4 (by omega) (by omega) hl) ?_
  intro _ _
  try simp only [List.cons_append, List.nil_append, List.append_nil]
  have nr := numP_range l a0 4 (.inr rfl)
  have nz : a0 < 0 → numP l a0 4 = -1 := fun h => by unfold numP; rw [if_pos (.inl h)]
  generalize numP l a0 4 = many at nr nz
  by_cases h3 : many < 0
  · rw [if_pos (.inl h3)]
    refine rr ?_
    exact en emptyO e0
  by_cases h4 : (l.length : Int) < a0 + 4 + 4 * many
  · rw [if_pos (.inr h4)]
    refine rr ?_
    exact en emptyO e0
  rw [if_neg (by omega)]
  obtain ⟨m, rfl⟩ : ∃ m : Nat, many = (m : Int) := ⟨many.toNat, by omega⟩
  rw [Int.toNat_natCast]
  have ha0 : 0 ≤ a0 := by omega
  refine rr ?_
  refine hv [blk b4 [.string (mkB nm), .slice none 0 0, .int .i64 0, .slice none 0 0, .slice none 0 0, .slice none 0 0] 31, blk b2 obZ 31, row none 0 63 5 0 []] ?_
  obtain ⟨RC, hRC⟩ : ∃ R, R = rCode l m (a0 + 4) [] := ⟨_, rfl⟩
  rw [← hRC]
  refine lo [0, 2, 4, 7] (fun x : Nat × List In × Option Addr × Nat => [(6, .int .i64 (a0 + 4 + 4 * (x.1 : Int))), (8, .int .i64 (x.1 : Int))])
    (fun x => [(0, blk b4 [.string (mkB nm), .slice x.2.2.1 x.2.1.length x.2.2.2, .int .i64 0, .slice none 0 0, .slice none 0 0, .slice none 0 0] 31), (2, row x.2.2.1 x.2.2.2 63 5 x.2.1.length (insC x.2.1))])
    (fun x => x.1 ≤ m ∧ x.2.1.length = x.1 ∧ RC = rCode l (m - x.1) (a0 + 4 + 4 * (x.1 : Int)) x.2.1) (fun x => m - x.1) (0, [], none, 0) ⟨by omega, rfl, by rw [hRC]; simp⟩ ?_ (hE := by
      dsimp only
      rw [show a0 + 4 + 4 * ((0 : Nat) : Int) = a0 + 4 by omega]
      exact (by repeat (first | exact env_nil | (apply env_cons; exact rfl))))
  rintro ⟨k, acc, xa, xc⟩ ⟨hk, hacc, hct⟩ K1 hK1
  dsimp only at hk hacc hct ⊢
  by_cases hlt : k < m
  · obtain ⟨j, hj⟩ : ∃ j, m - k = j + 1 := ⟨m - k - 1, by omega⟩
    have hj2 : m - (k + 1) = j := by omega
    rw [hj] at hct
    simp only [rCode] at hct
    refine rr ?_
    refine cl (numRfC l (a0 + 4 + 4 * (k : Int)) 4 (by omega) (by omega) hl) ?_
    intro _ _
    try simp only [List.cons_append, List.nil_append, List.append_nil]
    generalize numP l (a0 + 4 + 4 * (k : Int)) 4 = w at hct
    refine cl (decRefC w) ?_
    intro _ _
    try simp only [List.cons_append, List.nil_append, List.append_nil]
    unfold inG
    cases hok : decOk w with
    | false =>
      rw [hok] at hct
      simp only [if_false, Bool.false_eq_true] at hct
      rw [hct]
      refine rr ?_
      intro b9 _
      refine rr ?_
      exact en emptyO e0
    | true =>
      rw [hok] at hct
      simp only [if_true] at hct ⊢
      generalize decF w = e at hct
      have e2 : acc.length + 1 = (acc ++ [e]).length := by simp
      refine rr ?_
      intro b9 _
      refine rr ?_
      intro b70 _
      refine rr ?_
      rintro ⟨a1, c1⟩ ⟨hc1, _⟩
      refine rr ?_
      rw [insC_snoc, e2]
      refine ro hK1 (k + 1, acc ++ [e], a1, c1) ⟨by omega, by simp [hacc], by dsimp only; rw [hj2, hct]; congr 1; omega⟩ (hE := ?_)
      dsimp only
      rw [show a0 + 4 + 4 * ((k + 1 : Nat) : Int) = a0 + 4 + 4 * (k : Int) + 4 by omega]
      exact (by repeat (first | exact env_nil | (apply env_cons; exact rfl)))
  obtain rfl : k = m := by omega
  rw [Nat.sub_self] at hct
  simp only [rCode] at hct
  rw [hct]
  clear hct hRC hK1
  obtain ⟨code, hcode⟩ : ∃ code, code = acc := ⟨_, rfl⟩
  rw [← hcode] at hacc ⊢
  obtain ⟨ca, cc, hca, hcc⟩ : ∃ ca cc, ca = xa ∧ cc = xc := ⟨_, _, rfl, rfl⟩
  rw [← hca, ← hcc]
  clear hcode hca hcc
  have ha1 : 0 ≤ a0 + 4 + 4 * (k : Int) ∧ a0 + 4 + 4 * (k : Int) ≤ l.length := by omega
  generalize a0 + 4 + 4 * (k : Int) = a1 at ha1
  unfold rT2
  dsimp only
  refine rr ?_
  refine cl (numRfC l a1 4 (by omega) (by omega) hl) ?_
  intro _ _
  try simp only [List.cons_append, List.nil_append, List.append_nil]
  generalize numP l a1 4 = data
  refine rr ?_
  refine cl (numRfC l (a1 + 4) 1 (by omega) (by omega) hl) ?_
  intro _ _
  try simp only [List.cons_append, List.nil_append, List.append_nil]
  have nr2 := numP_range l (a1 + 4) 1 (.inl rfl)
  generalize numP l (a1 + 4) 1 = me at nr2
  obtain ⟨ne, hne⟩ : ∃ n, n = me.toNat := ⟨_, rfl⟩
  rw [← hne]
  refine rr ?_
  refine hv [blk b4 [.string (mkB nm), .slice ca code.length cc, .int .i64 data, .slice none 0 0, .slice none 0 0, .slice none 0 0] 31, blk b2 obZ 31, row ca cc 63 5 code.length (insC code), row none 0 52 2 0 []] ?_
  obtain ⟨RE, hRE⟩ : ∃ R, R = rEx l ne (a1 + 5) [] := ⟨_, rfl⟩
  rw [← hRE]
  refine lo [0, 2, 4, 7] (fun x : Nat × Int × List Sy × Option Addr × Nat => [(6, .int .i64 x.2.1), (11, .int .i64 (x.1 : Int))])
    (fun x => [(0, blk b4 [.string (mkB nm), .slice ca code.length cc, .int .i64 data, .slice x.2.2.2.1 x.2.2.1.length x.2.2.2.2, .slice none 0 0, .slice none 0 0] 31), (3, row x.2.2.2.1 x.2.2.2.2 52 2 x.2.2.1.length (syC x.2.2.1))])
    (fun x => x.1 ≤ ne ∧ x.2.2.1.length = x.1 ∧ (0 ≤ x.2.1 ∧ x.2.1 ≤ (l.length : Int) + 5) ∧ (∀ y ∈ x.2.2.1, y.name.size ≤ 1000000) ∧ RE = rEx l (ne - x.1) x.2.1 x.2.2.1) (fun x => ne - x.1) (0, a1 + 5, [], none, 0) ⟨by omega, rfl, by dsimp only; omega, fun y hy => (by cases hy), hRE⟩ ?_
  rintro ⟨k2, a, acc, xa, xc⟩ ⟨hk2, hacce, hal, hnm, hct⟩ K1 hK1
  dsimp only at hk2 hacce hal hnm hct ⊢
  by_cases hlt : k2 < ne
  · obtain ⟨j, hj⟩ : ∃ j, ne - k2 = j + 1 := ⟨ne - k2 - 1, by omega⟩
    have hj2 : ne - (k2 + 1) = j := by omega
    rw [hj] at hct
    simp only [rEx] at hct
    refine rr ?_
    refine cl (textRfC l a (by omega) hl) ?_
    intro _ _
    try simp only [List.cons_append, List.nil_append, List.append_nil]
    have tr2 := textP_range (l := l) (a := a)
    have tl2 := textP_len l a
    obtain ⟨⟨x, a2⟩, ht2⟩ : ∃ p, p = textP l a := ⟨_, rfl⟩
    rw [← ht2] at tr2 tl2 hct ⊢
    dsimp only at tr2 tl2 hct ⊢
    by_cases hneg : a2 < 0
    · rw [if_pos hneg] at hct
      rw [hct]
      refine rr ?_
      exact en emptyO e0
    rw [if_neg hneg] at hct
    refine rr ?_
    refine dx [0, 1, 2, 3, 4, 5, 6, 7, 8, 9, 10] [1] [] ?_
    refine rr ?_
    refine cld (numRfC l a2 4 (by omega) (by omega) hl) ?_
    intro _ _
    try simp only [List.cons_append, List.nil_append, List.append_nil]
    generalize numP l a2 4 = w at hct
    have e2 : acc.length + 1 = (acc ++ [(⟨mkB x, w⟩ : Sy)]).length := by simp
    have e3 := syC_snoc acc ⟨mkB x, w⟩
    dsimp only at e3
    refine rr ?_
    intro b106 _
    refine rr ?_
    rintro ⟨a3, c1⟩ ⟨hc1, _⟩
    refine rr ?_
    rw [e3, e2]
    exact ro hK1 (k2 + 1, a2 + 4, acc ++ [⟨mkB x, w⟩], a3, c1) ⟨by omega, by simp [hacce], by dsimp only; omega, fun y hy => by
      rcases List.mem_append.1 hy with hy | hy
      · exact hnm y hy
      · simp only [List.mem_singleton] at hy; subst hy; show (mkB x).size ≤ _; rw [mkB_size]; omega, by dsimp only; rw [hj2]; exact hct⟩
  have hk3 : ne - k2 = 0 := by omega
  rw [hk3] at hct
  simp only [rEx] at hct
  rw [hct]
  have hge2 : me ≤ (k2 : Int) := by omega
  clear hct hRE hK1 hk3
  obtain ⟨exps, hexps⟩ : ∃ exps, exps = acc := ⟨_, rfl⟩
  rw [← hexps] at hacce hnm ⊢
  obtain ⟨ea, ec, hea, hec⟩ : ∃ ca cc, ca = xa ∧ cc = xc := ⟨_, _, rfl, rfl⟩
  rw [← hea, ← hec]
  clear hexps hea hec
  unfold rT3
  dsimp only
  refine rr ?_
  refine cl (numRfC l a 1 (by omega) (by omega) hl) ?_
  intro _ _
  try simp only [List.cons_append, List.nil_append, List.append_nil]
  have nr3 := numP_range l a 1 (.inl rfl)
  generalize numP l a 1 = mi at nr3
  obtain ⟨ni, hni⟩ : ∃ n, n = mi.toNat := ⟨_, rfl⟩
  rw [← hni]
  refine rr ?_
  refine hv [blk b4 [.string (mkB nm), .slice ca code.length cc, .int .i64 data, .slice ea exps.length ec, .slice none 0 0, .slice none 0 0] 31, blk b2 obZ 31, row ca cc 63 5 code.length (insC code), row ea ec 52 2 exps.length (syC exps), row none 0 9 1 0 []] ?_
  obtain ⟨RI, hRI⟩ : ∃ R, R = rIm l ni (a + 1) [] := ⟨_, rfl⟩
  rw [← hRI]
  refine lo [0, 2, 4, 7] (fun x : Nat × Int × List ByteArray × Option Addr × Nat => [(6, .int .i64 x.2.1), (14, .int .i64 (x.1 : Int))])
    (fun x => [(0, blk b4 [.string (mkB nm), .slice ca code.length cc, .int .i64 data, .slice ea exps.length ec, .slice x.2.2.2.1 x.2.2.1.length x.2.2.2.2, .slice none 0 0] 31), (4, row x.2.2.2.1 x.2.2.2.2 9 1 x.2.2.1.length (strC x.2.2.1))])
    (fun x => x.1 ≤ ni ∧ x.2.2.1.length = x.1 ∧ (0 ≤ x.2.1 ∧ x.2.1 ≤ (l.length : Int) + 6) ∧ (∀ y ∈ x.2.2.1, y.size ≤ 1000000) ∧ RI = rIm l (ni - x.1) x.2.1 x.2.2.1) (fun x => ni - x.1) (0, a + 1, [], none, 0) ⟨by omega, rfl, by dsimp only; omega, fun y hy => (by cases hy), hRI⟩ ?_
  rintro ⟨k3, a', acc, xa, xc⟩ ⟨hk3, hacci, hal2, hnm2, hct⟩ K1 hK1
  dsimp only at hk3 hacci hal2 hnm2 hct ⊢
  by_cases hlt : k3 < ni
  · obtain ⟨j, hj⟩ : ∃ j, ni - k3 = j + 1 := ⟨ni - k3 - 1, by omega⟩
    have hj2 : ni - (k3 + 1) = j := by omega
    rw [hj] at hct
    simp only [rIm] at hct
    refine rr ?_
    refine cl (textRfC l a' (by omega) hl) ?_
    intro _ _
    try simp only [List.cons_append, List.nil_append, List.append_nil]
    have tr2 := textP_range (l := l) (a := a')
    have tl2 := textP_len l a'
    obtain ⟨⟨x, a2⟩, ht2⟩ : ∃ p, p = textP l a' := ⟨_, rfl⟩
    rw [← ht2] at tr2 tl2 hct ⊢
    dsimp only at tr2 tl2 hct ⊢
    by_cases hneg : a2 < 0
    · rw [if_pos hneg] at hct
      rw [hct]
      refine rr ?_
      exact en emptyO e0
    rw [if_neg hneg] at hct
    have e2 : acc.length + 1 = (acc ++ [mkB x]).length := by simp
    refine rr ?_
    intro b133 _
    refine rr ?_
    rintro ⟨a3, c1⟩ ⟨hc1, _⟩
    refine rr ?_
    rw [strC_snoc, e2]
    exact ro hK1 (k3 + 1, a2, acc ++ [mkB x], a3, c1) ⟨by omega, by simp [hacci], by dsimp only; omega, fun y hy => by
      rcases List.mem_append.1 hy with hy | hy
      · exact hnm2 y hy
      · simp only [List.mem_singleton] at hy; subst hy; rw [mkB_size]; omega, by dsimp only; rw [hj2]; exact hct⟩
  have hk4 : ni - k3 = 0 := by omega
  rw [hk4] at hct
  simp only [rIm] at hct
  rw [hct]
  have hge3 : mi ≤ (k3 : Int) := by omega
  clear hct hRI hK1 hk4
  obtain ⟨imps, himps⟩ : ∃ imps, imps = acc := ⟨_, rfl⟩
  rw [← himps] at hacci hnm2 ⊢
  obtain ⟨ia, ic, hia, hic⟩ : ∃ ca cc, ca = xa ∧ cc = xc := ⟨_, _, rfl, rfl⟩
  rw [← hia, ← hic]
  clear himps hia hic
  unfold rT4
  dsimp only
  refine rr ?_
  refine cl (numRfC l a' 4 (by omega) (by omega) hl) ?_
  intro _ _
  try simp only [List.cons_append, List.nil_append, List.append_nil]
  have nr4 := numP_range l a' 4 (.inr rfl)
  generalize numP l a' 4 = mp at nr4
  by_cases h5 : mp < 0
  · rw [if_pos (.inl h5)]
    refine rr ?_
    exact en emptyO e0
  by_cases h6 : a' + 4 + 6 * mp = (l.length : Int)
  rotate_left
  · rw [if_pos (.inr h6)]
    refine rr ?_
    exact en emptyO e0
  rw [if_neg (by omega)]
  obtain ⟨np, rfl⟩ : ∃ m : Nat, mp = (m : Int) := ⟨mp.toNat, by omega⟩
  rw [Int.toNat_natCast]
  refine rr ?_
  refine hv [blk b4 [.string (mkB nm), .slice ca code.length cc, .int .i64 data, .slice ea exps.length ec, .slice ia imps.length ic, .slice none 0 0] 31, blk b2 obZ 31, row ca cc 63 5 code.length (insC code), row ea ec 52 2 exps.length (syC exps), row ia ic 9 1 imps.length (strC imps), row none 0 55 3 0 []] ?_
  obtain ⟨RP, hRP⟩ : ∃ R, R = rPa l np (a' + 4) [] := ⟨_, rfl⟩
  rw [← hRP]
  refine lo [0, 2, 4, 7] (fun x : Nat × List Pa × Option Addr × Nat => [(6, .int .i64 (a' + 4 + 6 * (x.1 : Int))), (17, .int .i64 (x.1 : Int))])
    (fun x => [(0, blk b4 [.string (mkB nm), .slice ca code.length cc, .int .i64 data, .slice ea exps.length ec, .slice ia imps.length ic, .slice x.2.2.1 x.2.1.length x.2.2.2] 31), (5, row x.2.2.1 x.2.2.2 55 3 x.2.1.length (paC x.2.1))])
    (fun x => x.1 ≤ np ∧ x.2.1.length = x.1 ∧ RP = rPa l (np - x.1) (a' + 4 + 6 * (x.1 : Int)) x.2.1) (fun x => np - x.1) (0, [], none, 0) ⟨by omega, rfl, by rw [hRP]; simp⟩ ?_ (hE := by
      dsimp only
      rw [show a' + 4 + 6 * ((0 : Nat) : Int) = a' + 4 by omega]
      exact (by repeat (first | exact env_nil | (apply env_cons; exact rfl))))
  rintro ⟨k4, acc, xa, xc⟩ ⟨hk4, haccp, hct⟩ K1 hK1
  dsimp only at hk4 haccp hct ⊢
  by_cases hlt : k4 < np
  · obtain ⟨j, hj⟩ : ∃ j, np - k4 = j + 1 := ⟨np - k4 - 1, by omega⟩
    have hj2 : np - (k4 + 1) = j := by omega
    rw [hj] at hct
    simp only [rPa] at hct
    have hb6 : a' + 4 + 6 * (k4 : Int) + 6 ≤ l.length := by omega
    have hst : a' + 4 + 6 * ((k4 + 1 : Nat) : Int) = a' + 4 + 6 * (k4 : Int) + 6 := by omega
    generalize a' + 4 + 6 * (k4 : Int) = q at hct hb6 hst
    refine rr ?_
    refine dx [0, 1, 2, 3, 5, 6, 7, 9, 10, 11, 4, 8, 12, 13, 14, 15, 16, 17] [1] [] ?_
    refine rr ?_
    refine cld (numRfC l q 4 (by omega) (by omega) hl) ?_
    intro _ _
    try simp only [List.cons_append, List.nil_append, List.append_nil]
    refine cld (numRfC l (q + 4) 1 (by omega) (by omega) hl) ?_
    intro _ _
    try simp only [List.cons_append, List.nil_append, List.append_nil]
    refine cld (numRfC l (q + 5) 1 (by omega) (by omega) hl) ?_
    intro _ _
    try simp only [List.cons_append, List.nil_append, List.append_nil]
    generalize numP l q 4 = w1 at hct
    generalize numP l (q + 4) 1 = w2 at hct
    generalize numP l (q + 5) 1 = w3 at hct
    have e2 : acc.length + 1 = (acc ++ [(⟨w1, w2, w3⟩ : Pa)]).length := by simp
    have e3 := paC_snoc acc ⟨w1, w2, w3⟩
    dsimp only at e3
    refine rr ?_
    intro b173 _
    refine rr ?_
    rintro ⟨a3, c1⟩ ⟨hc1, _⟩
    refine rr ?_
    rw [e3, e2]
    refine ro hK1 (k4 + 1, acc ++ [⟨w1, w2, w3⟩], a3, c1) ⟨by omega, by simp [haccp], by dsimp only; rw [hj2, hst]; exact hct⟩ (hE := ?_)
    dsimp only
    rw [hst]
    exact (by repeat (first | exact env_nil | (apply env_cons; exact rfl)))
  have hk5 : np - k4 = 0 := by omega
  rw [hk5] at hct
  simp only [rPa] at hct
  rw [hct]
  clear hct hRP hK1 hk5
  obtain ⟨o, ho⟩ : ∃ o : Ob, o = ⟨mkB nm, ca, cc, code, data, ea, ec, exps, ia, ic, imps, xa, xc, acc⟩ := ⟨_, rfl⟩
  have hok : OkOb o := by
    rw [ho]
    exact ⟨by rw [mkB_size]; omega, by show code.length ≤ _; omega, by show exps.length ≤ _; omega, by show imps.length ≤ _; omega, by show acc.length ≤ _; omega, fun y hy => Nat.le_trans (hnm y hy) (by decide), fun y hy => Nat.le_trans (hnm2 y hy) (by decide)⟩
  have hrt := right14C o hok
  have hcn : canon o = ⟨mkB nm, none, 0, code, data, none, 0, exps, none, 0, imps, none, 0, acc⟩ := by rw [ho]; rfl
  rw [← hcn]
  have hgc : goodO (canon o) = goodO o := rfl
  rw [hgc]
  clear hgc hcn
  unfold obG obS at hrt
  rw [ho] at hrt
  dsimp only at hrt
  unfold obZ
  refine rr ?_
  refine cl (hrt) ?_
  intro _ _
  try simp only [List.cons_append, List.nil_append, List.append_nil]
  rw [← ho]
  cases hg : goodO o with
  | true =>
    simp only [if_true]
    refine rr ?_
    exact en o rfl (hv := by rw [ho]; rfl) (hp := by rw [ho]; unfold obR2; dsimp only; (repeat (first | exact Has.nil | (apply Has.cons; focus ((repeat (first | exact pick_here | apply pick_there)); done)) | apply Has.nrow | apply Has.gen0)))
  | false =>
    refine rr ?_
    exact en emptyO e0
end Go.Proofs.Ytgmegfmabkkaoaa

/- Texts of the proof, in their order: Sq3, Bg2, Ro1, Br2, Ef1, Ef2, Bg3, Ef3, De1, De2, Ro2, De3, Sc1, Le1, Rp1, Or1, Or2. -/
import Derived.Test.YtkolmklfgbimoaaGreatDoorM7
import Derived.Test.YtkolmklfgbimoaaGreatDoorM3
import Derived.Sort.Row
import Derived.Test.YtkolmklfgbimoaaGreatDoorM2
import Derived.Test.YtkolmklfgbimoaaGreatDoorM4
import Derived.Lib.RowBridge
set_option linter.unusedVariables false
set_option linter.unusedSimpArgs false
namespace Go.Proofs.YtkolmklfgbimoaaGreatDoor
open Go Go.Sx Go.Sx.Chunk
set_option maxRecDepth 100000
def i64C (l : List Int) : List Value := l.map fun n => Value.int .i64 n
theorem i64C_len (l : List Int) : (i64C l).length = l.length := by simp [i64C]
theorem i64C_get {l : List Int} {k : Nat} {v : Int} (h : l[k]? = some v) : (i64C l)[k]? = some (.int .i64 v) := by simp [i64C, h]
theorem i64C_set (l : List Int) (k : Nat) (v : Int) : (i64C l).set k (.int .i64 v) = i64C (l.set k v) := by simp [i64C, List.map_set]
theorem i64C_rep (n : Nat) : List.replicate n (Value.int .i64 0) = i64C (List.replicate n 0) := by simp [i64C]
theorem i64C_one (l : List Int) : ∀ u ∈ i64C l, u.oneCell' = true := by
 intro u hu
 simp only [i64C, List.mem_map] at hu
 obtain ⟨n, _, rfl⟩ := hu
 rfl
theorem i64C_snoc (l : List Int) (v : Int) : i64C (l ++ [v]) = i64C l ++ [.int .i64 v] := by simp [i64C]
theorem i64C_take (l : List Int) (k : Nat) : (i64C l).take (k * 1) = i64C (l.take k) := by simp [i64C, List.map_take]
def memH (mm g n : Nat) (l : List Int) : List Chunk := [blk mm [.slice (some ⟨g, 0, none⟩) n n] 190, row (some ⟨g, 0, none⟩) n 3 1 n (i64C l)]
def mP (mm : Nat) : Value := .pointer (some ⟨mm, 0, none⟩)
theorem newBad (n : Int) (h : n < 0 ∨ 32000 < n) : FnC (α := Unit) Tryz.prog 53 [.int .i64 n] [] [] (fun _ => .pointer none) (fun _ => []) (fun _ => True) := by
 by_cases h0 : n < 0
 ·skip
  refine fn_intro Tryz.func53 Tryz.ntmps53 rfl rfl rfl (fun w0 => ?_)
  try simp only [Sx.ap1, Sx.ap2, Sx.ap3]
  refine rr ?_
  exact en () trivial
 ·have h1 : 32000 < n := h.resolve_left h0
  refine fn_intro Tryz.func53 Tryz.ntmps53 rfl rfl rfl (fun w0 => ?_)
  try simp only [Sx.ap1, Sx.ap2, Sx.ap3]
  refine rr ?_
  exact en () trivial
theorem newOk (n : Nat) (h : n ≤ 32000) : FnC Tryz.prog 53 [.int .i64 (n : Int)] [] [] (fun z : Nat × Nat => mP z.1) (fun z => memH z.1 z.2 n (List.replicate n 0)) (fun _ => True) := by
 unfold memH mP
 refine fn_intro Tryz.func53 Tryz.ntmps53 rfl rfl rfl (fun w0 => ?_)
 try simp only [Sx.ap1, Sx.ap2, Sx.ap3]
 refine rr ?_
 intro g _
 refine rr ?_
 intro mm _
 refine rr ?_
 rw [i64C_rep]
 exact en (mm, g) trivial
theorem thereC (mm g n : Nat) (l : List Int) (a : Int) (hn : n ≤ 1000000) : FnC (α := Unit) Tryz.prog 207 [mP mm, .int .i64 a] (memH mm g n l) [] (fun _ => .bool (decide (0 ≤ a ∧ a < n))) (fun _ => memH mm g n l) (fun _ => True) := by
 unfold memH mP
 by_cases h0 : 0 ≤ a
 ·skip
  refine fn_intro Tryz.func207 Tryz.ntmps207 rfl rfl rfl (fun w0 => ?_)
  try simp only [Sx.ap1, Sx.ap2, Sx.ap3]
  refine rr ?_
  exact en () trivial (hv := by simp [packR, h0])
 ·skip
  refine fn_intro Tryz.func207 Tryz.ntmps207 rfl rfl rfl (fun w0 => ?_)
  try simp only [Sx.ap1, Sx.ap2, Sx.ap3]
  refine rr ?_
  exact en () trivial (hv := by simp [packR, h0])
theorem loadOk (mm g n : Nat) (l : List Int) (a v : Int) (hn : n ≤ 1000000) (hl : l.length = n) (h0 : 0 ≤ a) (hv : l[a.toNat]? = some v) : FnC (α := Unit) Tryz.prog 153 [mP mm, .int .i64 a] (memH mm g n l) [] (fun _ => .tuple #[.int .i64 v, .bool true]) (fun _ => memH mm g n l) (fun _ => True) := by
 have h1 : a.toNat < l.length := (List.getElem?_eq_some_iff.1 hv).1
 have h2 := thereC mm g n l a hn
 rw [show decide (0 ≤ a ∧ a < (n : Int)) = true by rw [decide_eq_true_eq]; omega] at h2
 have h3 : (i64C l)[0 + a.toNat * 1]? = some (.int .i64 v) := by rw [show 0 + a.toNat * 1 = a.toNat by omega]; exact i64C_get hv
 have hlen := i64C_len l
 unfold memH mP at *
 refine fn_intro Tryz.func153 Tryz.ntmps153 rfl rfl rfl (fun w0 => ?_)
 try simp only [Sx.ap1, Sx.ap2, Sx.ap3]
 refine rr ?_
 refine cl (h2) ?_
 intro _ _
 try simp only [Sx.ap1, Sx.ap2, Sx.ap3]
 refine rr ?_
 exact en () trivial
theorem loadBad (mm g n : Nat) (l : List Int) (a : Int) (hn : n ≤ 1000000) (h : ¬ (0 ≤ a ∧ a < n)) : FnC (α := Unit) Tryz.prog 153 [mP mm, .int .i64 a] (memH mm g n l) [] (fun _ => .tuple #[.int .i64 0, .bool false]) (fun _ => memH mm g n l) (fun _ => True) := by
 have h2 := thereC mm g n l a hn
 rw [show decide (0 ≤ a ∧ a < (n : Int)) = false by rw [decide_eq_false_iff_not]; exact h] at h2
 unfold memH mP at *
 refine fn_intro Tryz.func153 Tryz.ntmps153 rfl rfl rfl (fun w0 => ?_)
 try simp only [Sx.ap1, Sx.ap2, Sx.ap3]
 refine rr ?_
 refine cl (h2) ?_
 intro _ _
 try simp only [Sx.ap1, Sx.ap2, Sx.ap3]
 refine rr ?_
 exact en () trivial
theorem storeOk (mm g n : Nat) (l : List Int) (a v : Int) (hn : n ≤ 1000000) (hl : l.length = n) (h0 : 0 ≤ a ∧ a < n) : FnC (α := Unit) Tryz.prog 155 [mP mm, .int .i64 a, .int .i64 v] (memH mm g n l) [] (fun _ => .bool true) (fun _ => memH mm g n (l.set a.toNat (w32 v))) (fun _ => True) := by
 have h2 := thereC mm g n l a hn
 rw [show decide (0 ≤ a ∧ a < (n : Int)) = true by rw [decide_eq_true_eq]; omega] at h2
 have h3 := wrapC v
 have hlen := i64C_len l
 unfold memH mP at *
 refine fn_intro Tryz.func155 Tryz.ntmps155 rfl rfl rfl (fun w0 => ?_)
 try simp only [Sx.ap1, Sx.ap2, Sx.ap3]
 refine rr ?_
 refine cl (h2) ?_
 intro _ _
 try simp only [Sx.ap1, Sx.ap2, Sx.ap3]
 refine rr ?_
 refine dx [0, 1, 2, 3, 4, 5, 6, 7, 8] [3] [] ?_
 refine rr ?_
 refine cld (h3) ?_
 intro _ _
 try simp only [Sx.ap1, Sx.ap2, Sx.ap3]
 refine rr ?_
 rw [show 0 + a.toNat * 1 = a.toNat by omega, i64C_set]
 exact en () trivial
theorem storeBad (mm g n : Nat) (l : List Int) (a v : Int) (hn : n ≤ 1000000) (h : ¬ (0 ≤ a ∧ a < n)) : FnC (α := Unit) Tryz.prog 155 [mP mm, .int .i64 a, .int .i64 v] (memH mm g n l) [] (fun _ => .bool false) (fun _ => memH mm g n l) (fun _ => True) := by
 have h2 := thereC mm g n l a hn
 rw [show decide (0 ≤ a ∧ a < (n : Int)) = false by rw [decide_eq_false_iff_not]; exact h] at h2
 unfold memH mP at *
 refine fn_intro Tryz.func155 Tryz.ntmps155 rfl rfl rfl (fun w0 => ?_)
 try simp only [Sx.ap1, Sx.ap2, Sx.ap3]
 refine rr ?_
 refine cl (h2) ?_
 intro _ _
 try simp only [Sx.ap1, Sx.ap2, Sx.ap3]
 refine rr ?_
 exact en () trivial
theorem cloneIC (a : Option Addr) (k : Nat) (l : List Int) (hn : l.length ≤ 1000000000000) : FnC (α := Option Addr × Nat) Tryz.prog 54 [.slice a l.length k] [] [rng a (i64C l)] (fun z => .slice z.1 l.length z.2) (fun z => [row z.1 z.2 3 1 l.length (i64C l)]) (fun _ => True) := by
 have hone := i64C_one l
 have hlen := i64C_len l
 cases a with
 | none =>
  by_cases h0 : l.length = 0
  ·rw [List.length_eq_zero_iff.mp h0]
   refine fn_intro Tryz.func54 Tryz.ntmps54 rfl rfl rfl (fun w0 => ?_)
   try simp only [Sx.ap1, Sx.ap2, Sx.ap3]
   refine rr ?_
   exact en (none, 0) trivial
  ·skip
   refine fn_intro Tryz.func54 Tryz.ntmps54 rfl rfl rfl (fun w0 => ?_)
   try simp only [Sx.ap1, Sx.ap2, Sx.ap3]
   refine w_use (fun w hw => (hw.pick 0 rfl).rng_some (by omega)) ?_
   rintro ⟨g1, hg⟩
   cases hg
 | some a =>
  refine fn_intro Tryz.func54 Tryz.ntmps54 rfl rfl rfl (fun w0 => ?_)
  try simp only [Sx.ap1, Sx.ap2, Sx.ap3]
  refine rr ?_
  intro b1 _
  refine rr ?_
  rintro ⟨z1, z2⟩ _
  refine rr ?_
  exact en (z1, z2) trivial (hp := by rw [Nat.zero_add, List.nil_append]; (repeat (first | exact Has.nil | (apply Has.cons; focus ((repeat (first | exact pick_here | apply pick_there)); done)) | apply Has.nrow | apply Has.gen0))) (hv := by rw [Nat.zero_add]; rfl)
theorem wordsC (mm g n : Nat) (l : List Int) (hn : n ≤ 1000000) (hl : l.length = n) : FnC Tryz.prog 108 [mP mm] (memH mm g n l) [] (fun z : Option Addr × Nat => .slice z.1 n z.2) (fun z => memH mm g n l ++ [row z.1 z.2 3 1 n (i64C l)]) (fun _ => True) := by
 have h1 := cloneIC (some ⟨g, 0, none⟩) n l (by omega)
 rw [hl] at h1
 unfold memH mP at *
 refine fn_intro Tryz.func108 Tryz.ntmps108 rfl rfl rfl (fun w0 => ?_)
 try simp only [Sx.ap1, Sx.ap2, Sx.ap3]
 refine rr ?_
 refine cl (h1) ?_
 intro z _
 try simp only [Sx.ap1, Sx.ap2, Sx.ap3]
 refine rr ?_
 exact en z trivial
theorem used_eq (l : List Int) (k : Nat) : k ≤ l.length → usedQ (l.take k) = if k = 0 then [] else if l.getD (k - 1) 0 = 0 then usedQ (l.take (k - 1)) else l.take k := by
 intro hk
 cases k with
 | zero => simp [usedQ]
 | succ k =>
  have hlt : k < l.length := hk
  rw [if_neg (by omega), show k + 1 - 1 = k by omega]
  have hg : l.getD k 0 = l[k] := by simp [hlt]
  rw [hg, List.take_succ_eq_append_getElem hlt]
  unfold usedQ
  rw [List.reverse_append, List.reverse_singleton, List.singleton_append, List.dropWhile_cons]
  by_cases h0 : l[k] = 0
  ·rw [if_pos h0, if_pos (by simpa using h0)]
  ·rw [if_neg h0, if_neg (by simpa using h0)]
   simp
theorem usedC (mm g n : Nat) (l : List Int) (hn : n ≤ 1000000) (hl : l.length = n) : FnC Tryz.prog 56 [mP mm] (memH mm g n l) [] (fun z : Option Addr × Nat => .slice z.1 (usedQ l).length z.2) (fun z => memH mm g n l ++ [row z.1 z.2 3 1 (usedQ l).length (i64C (usedQ l))]) (fun _ => True) := by
 have h1 := wordsC mm g n l hn hl
 have hlen := i64C_len l
 unfold memH mP at *
 refine fn_intro Tryz.func56 Tryz.ntmps56 rfl rfl rfl (fun w0 => ?_)
 try simp only [Sx.ap1, Sx.ap2, Sx.ap3]
 refine rr ?_
 refine cl (h1) ?_
 intro ⟨za, zc⟩ _
 try simp only [Sx.ap1, Sx.ap2, Sx.ap3]
 refine rr ?_
 refine lo [] (fun k : Nat => [(3, .slice za k zc)]) (fun k => [(2, row za zc 3 1 k (i64C (l.take k)))]) (fun k => k ≤ n ∧ usedQ (l.take k) = usedQ l) (fun k => k) n ⟨Nat.le_refl _, by rw [← hl, List.take_length]⟩ ?_ (hH := by rw [← hl, List.take_length])
 rintro k ⟨hk, hu⟩ K1 hK1
 dsimp only at hk hu ⊢
 have hue := used_eq l k (by omega)
 by_cases h0 : k = 0
 ·subst h0
  have hu0 : usedQ l = [] := by rw [← hu, hue]; rfl
  rw [hu0]
  refine rr ?_
  exact en (za, zc) trivial
 ·rw [if_neg h0] at hue
  obtain ⟨v, hvk⟩ := some_at (l := l) (k := k - 1) (by omega)
  have hvd : l.getD (k - 1) 0 = v := by simp [List.getD, hvk]
  have hget : (i64C (l.take k))[0 + ((k : Int) - 1).toNat * 1]? = some (.int .i64 v) := by
   rw [show 0 + ((k : Int) - 1).toNat * 1 = k - 1 by omega]
   refine i64C_get ?_
   rw [List.getElem?_take, if_pos (by omega)]; exact hvk
  have hll := i64C_len (l.take k)
  refine w_use (fun w hw => (hw.pick 2 rfl).row_cap) fun hcap => ?_
  refine w_use (fun w hw => (hw.pick 2 rfl).row_some (by first | omega | decide | (simp; done) | (simp <;> omega))) ?_
  rintro ⟨g1, rfl⟩
  rw [hvd] at hue
  by_cases hz : v = 0
  ·rw [if_pos hz] at hue
   refine rr ?_
   refine w_turn (fun w hw => by have := (hw.pick 2 rfl).row_shrink (m := k - 1) (by omega); rw [i64C_take] at this; exact this) ?_
   rw [List.take_take, Nat.min_eq_left (by omega), show ((k : Int) - 1).toNat = k - 1 by omega]
   exact ro hK1 (k - 1) ⟨by omega, by rw [← hue, hu]⟩
  ·rw [if_neg hz] at hue
   have hul : usedQ l = l.take k := by rw [← hu, hue]
   rw [hul, List.length_take, Nat.min_eq_left (by omega)]
   refine rr ?_
   exact en (some ⟨g1, 0, none⟩, zc) trivial
end Go.Proofs.YtkolmklfgbimoaaGreatDoor
namespace Go.Proofs.YtkolmklfgbimoaaGreatDoor
open Go Go.Sx Go.Sx.Chunk
def inI (v : Int) (l : List Int) : Bool := l.any fun s => decide (s = v)
def iMap (l : List Int) : List (Int × Value) := l.map fun s => (s, .bool true)
theorem atK_iMap (v : Int) : ∀ l, atK (iMap l) v = if inI v l then some (.bool true) else none
 | [] => rfl
 | a :: l => by
  have ih := atK_iMap v l
  simp only [iMap, List.map_cons, atK] at ih ⊢
  by_cases h : a = v
  ·subst h; simp [inI]
  ·have h' : ¬ v = a := fun e => h e.symm
   simp only [inI, List.any_cons, h, decide_false, Bool.false_or] at ih ⊢
   first | (rw [if_neg h]; exact ih) | (rw [if_neg h']; exact ih)
theorem putK_iMap (v : Int) : ∀ l, inI v l = false → putK (iMap l) v (.bool true) = iMap (l ++ [v])
 | [], _ => rfl
 | a :: l, h => by
  simp only [inI, List.any_cons, Bool.or_eq_false_iff, decide_eq_false_iff_not] at h
  have ih := putK_iMap v l h.2
  have h' : ¬ v = a := fun e => h.1 e.symm
  simp only [iMap, List.map_cons, List.cons_append, putK] at ih ⊢
  first | rw [if_neg h.1, ih] | rw [if_neg h', ih]
def mapI (m : Option Nat) (l : List Int) : Chunk := match m with
 | none => genL []
 | some g => mapC (Value.int .i64) g (iMap l)
def setI (b : Nat) (m : Option Nat) (oa : Option Addr) (oc : Nat) (l : List Int) : List Chunk := [blk b [.map m, .slice oa l.length oc] 231, row oa oc 3 1 l.length (i64C l), mapI m l]
def setIOk (m : Option Nat) (l : List Int) : Prop := m = none → l = []
theorem setIW {b : Nat} {m : Option Nat} {oa : Option Addr} {oc : Nat} {l : List Int} : allW (setI b m oa oc l) = true := by cases m <;> rfl
set_option maxRecDepth 100000 in
theorem setIHasC (b : Nat) (m : Option Nat) (oa : Option Addr) (oc : Nat) (l : List Int) (v : Int) (hm : setIOk m l) :
  FnC (α := Unit) Tryz.prog 223 [.pointer (some ⟨b, 0, none⟩), .int .i64 v] (setI b m oa oc l) [] (fun _ => .bool (inI v l)) (fun _ => setI b m oa oc l) (fun _ => True) := by
 refine fn_intro Tryz.func223 Tryz.ntmps223 rfl rfl rfl (fun w0 => ?_)
 try simp only [Sx.ap1, Sx.ap2, Sx.ap3]
 unfold setI
 cases m with
 | none =>
  obtain rfl := hm rfl
  refine rr ?_
  exact we () [0, 0, 0] trivial
 | some g =>
  simp only [mapI]
  refine rr ?_
  rw [atK_iMap]
  refine we () [0, 0, 0] trivial (hv := ?_)
  cases h : inI v l <;> rfl
set_option maxRecDepth 100000 in
set_option maxHeartbeats 4000000 in
theorem setIAddC (b : Nat) (m : Option Nat) (oa : Option Addr) (oc : Nat) (l : List Int) (v : Int) (hm : setIOk m l) (hl : l.length ≤ 8796093021952) :
  FnC Tryz.prog 184 [.pointer (some ⟨b, 0, none⟩), .int .i64 v] (setI b m oa oc l) [] (fun _ : Option Nat × Option Addr × Nat => .bool (!inI v l)) (fun x => setI b x.1 x.2.1 x.2.2 (if inI v l then l else l ++ [v])) (fun x => setIOk x.1 (if inI v l then l else l ++ [v])) := by
 refine fn_intro Tryz.func184 Tryz.ntmps184 rfl rfl rfl (fun w0 => ?_)
 try simp only [Sx.ap1, Sx.ap2, Sx.ap3]
 refine rr ?_
 refine ca [0, 0, 0] (setIHasC b m oa oc l v hm) (ho := fun _ => setIW) ?_
 intro x hx
 try simp only [Sx.ap1, Sx.ap2, Sx.ap3]
 cases h : inI v l with
 | true =>
  refine rr ?_
  exact we (m, oa, oc) [0, 0, 0] (by rw [if_pos rfl]; exact hm)
 | false =>
  unfold setI
  cases m with
  | none =>
   obtain rfl := hm rfl
   refine rr ?_
   intro g _
   show Wd _ _ (mapC (Value.int .i64) g [] :: _) _
   refine rr ?_
   intro b1 _
   refine rr ?_
   rintro ⟨a1, c1⟩ ⟨hc1, _⟩
   refine rr ?_
   exact we (some g, a1, c1) [0, 0, 0] (fun h => by cases h)
  | some g =>
   simp only [mapI]
   refine rr ?_
   intro b1 _
   refine rr ?_
   rintro ⟨a1, c1⟩ ⟨hc1, _⟩
   refine rr ?_
   have hlen : l.length + 1 = (l ++ [v]).length := by simp
   have hstr : i64C l ++ [(Value.int .i64) v] = i64C (l ++ [v]) := by simp [i64C]
   rw [putK_iMap v l h, hlen, hstr]
   exact we (some g, a1, c1) [0, 0, 0] (fun h => by cases h)
def onceI : List Int → Bool
 | [] => true
 | a :: l => !inI a l && onceI l
theorem inI_app (v : Int) (a b : List Int) : inI v (a ++ b) = (inI v a || inI v b) := by simp [inI]
end Go.Proofs.YtkolmklfgbimoaaGreatDoor
namespace Go.Proofs.YtkolmklfgbimoaaGreatDoor
open Go
set_option maxRecDepth 100000
def nopI : In := ⟨0, 0, 0, 0, 0⟩
def sysF (n : Int) : List Int × Int := if n = 1 then ([], 4) else if n = 2 then ([4], 0) else ([], 0)
def fieldsF (i : In) : List Int × Int :=
 if 1 ≤ i.op ∧ i.op ≤ 9 then ([i.b, i.c], i.a)
 else if i.op = 10 ∨ i.op = 12 then ([i.b], i.a)
 else if i.op = 11 then ([], i.a)
 else if i.op = 13 ∨ i.op = 15 ∨ i.op = 16 then ([i.a, i.b], 0)
 else if i.op = 14 ∨ i.op = 19 then ([i.a], 0)
 else if i.op = 18 then ([], 31)
 else if i.op = 20 then sysF i.imm
 else ([], 0)
def writesF (i : In) : Int := if goodI i then (fieldsF i).2 else 0
def readsB (i : In) (n : Int) : Bool := decide (n ≠ 0) && (goodI i && (fieldsF i).1.contains n)
def actsF (i : In) : Bool := decide (i.op = 4 ∨ i.op = 5 ∨ i.op = 12 ∨ i.op = 13 ∨ i.op = 14 ∨ i.op = 20) && goodI i
def goesF (i : In) : Bool := decide (15 ≤ i.op ∧ i.op ≤ 19) && goodI i
def lateF (i : In) : Bool := goodI i && (decide (i.op = 12) || (decide (i.op = 20) && decide (i.imm = 1)))
def farF (a b : In) : Int :=
 if readsB b (writesF a) && lateF a then 2
 else if readsB b (writesF a) || (decide (writesF a ≠ 0) && decide (writesF a = writesF b)) || readsB a (writesF b) || (actsF a && actsF b) then 1
 else 0
theorem farF_le (a b : In) : 0 ≤ farF a b ∧ farF a b ≤ 2 := by
 unfold farF; split
 ·omega
 ·split <;> omega
def maxF (a : In) : List In → List Int → Int → Int
 | b :: l, h :: hs, m => maxF a l hs (if 0 < farF a b then max m (farF a b + h) else m)
 | _, _, m => m
def htsF : List In → List Int
 | [] => []
 | a :: l => maxF a l (htsF l) 0 :: htsF l
theorem htsF_len : ∀ l, (htsF l).length = l.length
 | [] => rfl
 | a :: l => by rw [htsF, List.length_cons, htsF_len l, List.length_cons]
def blocksF (l : List In) (at' : List Int) (j i : Nat) (p : Int) : Bool :=
 decide (0 < farF (l.getD i nopI) (l.getD j nopI)) && (decide (at'.getD i 0 < 0) || decide (p < at'.getD i 0 + farF (l.getD i nopI) (l.getD j nopI)))
def readyF (l : List In) (at' : List Int) (j : Nat) (p : Int) : Bool := decide (at'.getD j 0 < 0) && (List.range j).all fun i => !blocksF l at' j i p
def candsF (l : List In) (at' : List Int) (p : Int) : List Nat := (List.range l.length).filter fun j => readyF l at' j p
def bestG (h : List Int) : Option Nat → List Nat → Option Nat
 | b, [] => b
 | none, v :: l => bestG h (some v) l
 | some u, v :: l => bestG h (some (if h.getD u 0 < h.getD v 0 then v else u)) l
def bestF (h : List Int) (l : List Nat) : Option Nat := bestG h none l
def orderG (l : List In) (h : List Int) : Nat → List Int → List Int → Nat → List Int
 | 0, _, out, _ => out
 | f + 1, at', out, left => if left = 0 then out else match bestF h (candsF l at' (out.length : Int)) with
  | none => orderG l h f at' (out ++ [-1]) left
  | some b => orderG l h f (at'.set b (out.length : Int)) (out ++ [(b : Int)]) (left - 1)
def orderF (l : List In) : List Int := orderG l (htsF l) (2 * l.length + 1) (List.replicate l.length (-1)) [] l.length
def clearG (l : List In) (last : In) (p : Int) : Nat → List Int → Bool
 | _, [] => true
 | k, n :: o => if 0 ≤ n ∧ p < (k : Int) + farF (l.getD n.toNat nopI) last then false else clearG l last p (k + 1) o
def clearF (l : List In) (o : List Int) (last : In) (p : Int) : Bool := clearG l last p 0 o
def padG (l : List In) (o : List Int) (last : In) : List Int := if clearF l o last (o.length : Int) then o else o ++ [-1]
def layF (l : List In) : List Int :=
 if l = [] then [] else
 let e := l.length - 1
 let last := l.getD e nopI
 if goesF last then
  let o := orderF (l.take e)
  let k := o.length - 1
  let x := l.getD (o.getD k 0).toNat nopI
  if decide (o ≠ []) && !lateF x && decide (farF x last = 0) && clearF l (o.take k) last (k : Int) then o.take k ++ [(e : Int), o.getD k 0]
  else padG l o last ++ [(e : Int), -1]
 else
  let o := orderF l
  let n := o.getD (o.length - 1) 0
  if decide (0 ≤ n) && lateF (l.getD n.toNat nopI) then o ++ [-1] else o
def pickF (l : List In) (o : List Int) : List In := o.map fun (n : Int) => if 0 ≤ n ∧ n < (l.length : Int) then l.getD n.toNat nopI else nopI
def targetF (i : In) (at' : Int) : Option Int := if goodI i then (if i.op = 15 ∨ i.op = 16 then some (at' + 1 + i.imm) else if i.op = 17 ∨ i.op = 18 then some i.imm else none) else none
def fitI (n : Nat) (at' : Int) (i : In) : Bool := goodI i && (match targetF i at' with
 | some t => decide (0 ≤ t ∧ t ≤ n)
 | none => true)
def fitG (n : Nat) : Nat → List In → Bool
 | _, [] => true
 | k, i :: l => fitI n (k : Int) i && fitG n (k + 1) l
def fitF (code : List In) : Bool := decide (code.length ≤ 4096) && fitG code.length 0 code
def tellF (at' : Nat) (i : In) : List Int := (match targetF i (at' : Int) with
 | some t => [t]
 | none => []) ++ (if goesF i then [(at' : Int) + 1] else [])
def tellG : Nat → List In → List Int
 | _, [] => []
 | k, i :: l => tellF k i ++ tellG (k + 1) l
def headsF (code : List In) : List Nat := if fitF code ∧ code ≠ [] then (List.range code.length).filter fun k => (0 :: tellG 0 code).contains (k : Int) else []
def cutF (n : Nat) : List Nat → List (Nat × Nat)
 | [] => []
 | [a] => [(a, n)]
 | a :: b :: l => (a, b) :: cutF n (b :: l)
def blocksL (code : List In) : List (Nat × Nat) := cutF code.length (headsF code)
structure Laid where
 mk ::
 (code : List In) (places : List Int) (anew : List (Int × Int)) (olds : List Int)
def putM : List (Int × Int) → Int → Int → List (Int × Int)
 | [], k, v => [(k, v)]
 | (a, b) :: m, k, v => if k = a then (a, v) :: m else (a, b) :: putM m k v
def newF : List (Int × Int) → Int → Int
 | [], _ => 0
 | (a, b) :: m, k => if k = a then b else newF m k
def headG (old : Nat) (s : Laid) : Laid := { s with places := s.places ++ [(s.code.length : Int)], anew := putM s.anew (old : Int) (s.code.length : Int) }
def layB (code : List In) (b : Nat × Nat) (s : Laid) : Laid :=
 let s1 := headG b.1 s
 let l := (code.take b.2).drop b.1
 { s1 with code := s1.code ++ pickF l (layF l), olds := s1.olds ++ (layF l).map fun n => if 0 ≤ n then (b.1 : Int) + n else -1 }
def layAll (code : List In) : Laid := headG code.length ((blocksL code).foldl (fun s b => layB code b s) ⟨[], [], [], []⟩)
def aimF (code : List In) (m : List (Int × Int)) (at' : Nat) (old : Int) (j : In) : Option In :=
 if old < 0 then some j else match targetF (code.getD old.toNat nopI) old with
 | none => some j
 | some t =>
  let k : In := { j with imm := if j.op = 15 ∨ j.op = 16 then newF m t - ((at' : Int) + 1) else newF m t }
  if goodI k then some k else none
def aimG (code : List In) (m : List (Int × Int)) : Nat → List Int → List In → Option (List In)
 | k, o :: os, j :: l => match aimF code m k o j with
  | none => none
  | some i => (aimG code m (k + 1) os l).map fun r => i :: r
 | _, _, l => some l
def reorgF (code : List In) : List In × List Int × Int :=
 if fitF code then
  let s := layAll code
  if s.code.length > 4096 then ([], [], 4) else match aimG code s.anew 0 s.olds s.code with
  | none => ([], [], 3)
  | some c => (c, s.places, 0)
 else ([], [], 1)
end Go.Proofs.YtkolmklfgbimoaaGreatDoor
namespace Go.Proofs.YtkolmklfgbimoaaGreatDoor
open Go Go.Sx Go.Sx.Chunk
set_option maxRecDepth 100000
theorem putCells_take (l : List Int) (cur : Array Value) (k : Nat) (hk : k ≤ l.length) (hc : l.length ≤ cur.size) : (Go.Sort.putCells (Value.int .i64) 0 l.toArray cur).toList.take k = i64C (l.take k) := by
 unfold Go.Sort.putCells i64C
 apply List.ext_getElem
 ·simp; omega
 ·intro i h1 h2
  simp only [List.length_map, List.length_take] at h2
  have h3 : i < l.length := by omega
  simp only [List.getElem_take, Array.getElem_toList, Array.getElem_mapIdx, List.getElem_map]
  rw [if_pos ⟨Nat.zero_le _, by simpa using h3⟩]
  simp [h3]
theorem fnc_put {P : Program} {f : FuncId} {args : List Value} {g cap k : Nat} {t : TypeId} {l l2 : List Int} {v : Value} (hc : Called P f) (hlen : l2.length = l.length) (hk : k ≤ l.length)
  (h : ∀ w, Go.Sort.Holds (Value.int .i64) w g 0 l.toArray → g < w.heap.size → l.length ≤ cap → Calls P f args.toArray w fun e w' => e = .returned v ∧ ∃ q os, w' = Go.Sort.grow (Go.Sort.putRow (Value.int .i64) (Go.Sort.ahead w q) g 0 l2.toArray) os) :
  FnC (α := Unit) P f args [row (some ⟨g, 0, none⟩) cap t 1 l.length (i64C l)] [] (fun _ => v) (fun _ => [row (some ⟨g, 0, none⟩) cap t 1 k (i64C (l2.take k))]) (fun _ => True) := by
 refine ⟨hc, fun w hw => ?_⟩
 obtain ⟨⟨hx, hn⟩, hdom, _, _⟩ := hw.sep
 rcases hn with ⟨hn, _⟩ | ⟨g2, cap2, cur, hs, _, hg, hle, hmx, hsz, htk⟩
 ·cases hn
 simp only [Value.slice.injEq, Option.some.injEq, Addr.mk.injEq, true_and, and_true] at hs
 obtain ⟨rfl, rfl⟩ := hs
 rw [Nat.mul_one] at hsz htk
 have hlt : g < w.heap.size := (hdom g rfl).1
 have hH : Go.Sort.Holds (Value.int .i64) w g 0 l.toArray := by
  intro j hj
  have hj' : j < l.length := by simpa using hj
  have h1 : cur.toList[j]? = some (Value.int .i64 l[j]) := by
   have h2 : (cur.toList.take l.length)[j]? = (i64C l)[j]? := by rw [htk]
   rw [List.getElem?_take, if_pos hj'] at h2
   rw [h2]; unfold i64C; simp [hj']
  constructor
  ·simp only [World.cell?, hg, Nat.zero_add]
   simp only [Option.isSome_none, Bool.false_eq_true, if_false]
   rw [← Array.getElem?_toList, h1]
   simp [hj']
  ·simp only [World.frozen?, hg]; simp
 refine (h w hH hlt (by omega)).mono fun e w' ⟨he, q, os, hw'⟩ => ⟨(), he, ?_, trivial⟩
 subst hw'
 have hgrow : ∀ k, k < w.heap.size → (Go.Sort.grow (Go.Sort.putRow (Value.int .i64) (Go.Sort.ahead w q) g 0 l2.toArray) os).heap[k]? = (w.heap.modify g (Go.Sort.onCells (Go.Sort.putCells (Value.int .i64) 0 l2.toArray)))[k]? := fun k hk =>
  Array.getElem?_append_left (by show k < (w.heap.modify g _).size; simpa using hk)
 refine ⟨⟨rfl, rfl, rfl, ?_, fun k hk ho => ?_⟩, ?_⟩
 ·show w.heap.size ≤ (w.heap.modify g _ ++ os).size
  simp
 ·rw [hgrow k hk, Array.getElem?_modify]
  rw [if_neg (fun he => ho (by subst he; exact .inl ⟨rfl, rfl⟩))]
 ·refine ⟨⟨by simp [i64C]; omega, .inr ⟨g, cap, Go.Sort.putCells (Value.int .i64) 0 l2.toArray cur, rfl, Nat.zero_le _, ?_, by omega, hmx, by simp [Go.Sort.putCells, hsz], ?_⟩⟩, ?_, fun d hd => by (cases hd), trivial⟩
  ·rw [hgrow g hlt, Array.getElem?_modify, if_pos rfl, hg]; rfl
  ·rw [Nat.mul_one]; exact putCells_take l2 cur k (by omega) (by omega)
  ·intro k hk
   have hk' : (Value.slice (some ⟨g, 0, none⟩) k cap).ownBlock = some k := hk
   simp only [Value.ownBlock, Option.some.injEq] at hk'
   subst hk'
   refine ⟨?_, fun _ => .inl (.inl ⟨rfl, rfl⟩)⟩
   show g < (w.heap.modify g _ ++ os).size
   simp; omega
end Go.Proofs.YtkolmklfgbimoaaGreatDoor
namespace Go.Proofs.YtkolmklfgbimoaaGreatDoor
open Go Go.Sx Go.Sx.Chunk
set_option maxRecDepth 100000
theorem systemEC (n : Int) : FnC Tryz.prog 232 [.int .i64 n] [] [] (fun z : Option Addr × Nat => .tuple #[.slice z.1 (sysF n).1.length z.2, .int .i64 (sysF n).2]) (fun z => [row z.1 z.2 3 1 (sysF n).1.length (i64C (sysF n).1)]) (fun _ => True) := by
 by_cases h1 : n = 1
 ·subst h1
  refine fn_intro Tryz.func232 Tryz.ntmps232 rfl rfl rfl (fun w0 => ?_)
  try simp only [Sx.ap1, Sx.ap2, Sx.ap3]
  refine rr ?_
  exact en (none, 0) trivial
 ·by_cases h2 : n = 2
  ·subst h2
   refine fn_intro Tryz.func232 Tryz.ntmps232 rfl rfl rfl (fun w0 => ?_)
   try simp only [Sx.ap1, Sx.ap2, Sx.ap3]
   refine rr ?_
   intro b1 _
   refine rr ?_
   refine wd_rowB (m := 1) (sz := 1) ?_ rfl (by unfold maxLen; omega)
   exact en (some ⟨b1, 0, none⟩, 1) trivial
  ·have e : sysF n = ([], 0) := by unfold sysF; rw [if_neg h1, if_neg h2]
   rw [e]
   refine fn_intro Tryz.func232 Tryz.ntmps232 rfl rfl rfl (fun w0 => ?_)
   try simp only [Sx.ap1, Sx.ap2, Sx.ap3]
   refine rr ?_
   exact en (none, 0) trivial
theorem fieldsF_len (i : In) : (fieldsF i).1.length ≤ 2 := by
 unfold fieldsF sysF
 repeat' split
 all_goals simp
set_option maxHeartbeats 16000000 in
theorem fieldsEC (i : In) : FnC Tryz.prog 200 [inG i] [] [] (fun z : Option Addr × Nat => .tuple #[.slice z.1 (fieldsF i).1.length z.2, .int .i64 (fieldsF i).2]) (fun z => [row z.1 z.2 3 1 (fieldsF i).1.length (i64C (fieldsF i).1)]) (fun _ => True) := by
 obtain ⟨op, a, b, c, imm⟩ := i
 by_cases h : op < 0 ∨ 20 < op
 ·have e : fieldsF ⟨op, a, b, c, imm⟩ = ([], 0) := by
   unfold fieldsF
   dsimp only
   repeat rw [if_neg (by omega)]
  rw [e]
  unfold inG
  refine fn_intro Tryz.func200 Tryz.ntmps200 rfl rfl rfl (fun w0 => ?_)
  try simp only [Sx.ap1, Sx.ap2, Sx.ap3]
  refine rr ?_
  intro b1 _
  refine rr ?_
  exact en (none, 0) trivial
 have hop : (op = 1 ∨ op = 2 ∨ op = 3 ∨ op = 4 ∨ op = 5 ∨ op = 6 ∨ op = 7 ∨ op = 8 ∨ op = 9) ∨ (op = 10 ∨ op = 12) ∨ (op = 11) ∨ (op = 13 ∨ op = 15 ∨ op = 16) ∨ (op = 14 ∨ op = 19) ∨ (op = 18) ∨ (op = 20) ∨ (op = 0 ∨ op = 17) := by omega
 rcases hop with q | q | q | q | q | q | q | q
 ·rcases q with rfl | rfl | rfl | rfl | rfl | rfl | rfl | rfl | rfl
  all_goals
   unfold inG
   refine fn_intro Tryz.func200 Tryz.ntmps200 rfl rfl rfl (fun w0 => ?_)
   try simp only [Sx.ap1, Sx.ap2, Sx.ap3]
   refine rr ?_
   intro b1 _
   refine rr ?_
   refine dr [0, 1, 2, 3, 5, 6, 4, 7, 8] [1, 3, 6] [0] ?_
   refine rr ?_
   intro b2 _
   refine rr ?_
   refine wd_rowB (m := 2) (sz := 1) ?_ rfl (by unfold maxLen; omega)
   exact en (some ⟨b2, 0, none⟩, 2) trivial
 ·rcases q with rfl | rfl
  all_goals
   unfold inG
   refine fn_intro Tryz.func200 Tryz.ntmps200 rfl rfl rfl (fun w0 => ?_)
   try simp only [Sx.ap1, Sx.ap2, Sx.ap3]
   refine rr ?_
   intro b1 _
   refine rr ?_
   refine dr [0, 1, 3, 4, 2, 5, 6] [1, 4] [0] ?_
   refine rr ?_
   intro b2 _
   refine rr ?_
   refine wd_rowB (m := 1) (sz := 1) ?_ rfl (by unfold maxLen; omega)
   exact en (some ⟨b2, 0, none⟩, 1) trivial
 ·subst q
  unfold inG
  refine fn_intro Tryz.func200 Tryz.ntmps200 rfl rfl rfl (fun w0 => ?_)
  try simp only [Sx.ap1, Sx.ap2, Sx.ap3]
  refine rr ?_
  intro b1 _
  refine rr ?_
  refine dr [0, 1, 2, 3] [1] [0] ?_
  refine rr ?_
  exact en (none, 0) trivial
 ·rcases q with rfl | rfl | rfl
  all_goals
   unfold inG
   refine fn_intro Tryz.func200 Tryz.ntmps200 rfl rfl rfl (fun w0 => ?_)
   try simp only [Sx.ap1, Sx.ap2, Sx.ap3]
   refine rr ?_
   intro b1 _
   refine rr ?_
   intro b2 _
   refine rr ?_
   refine wd_rowB (m := 2) (sz := 1) ?_ rfl (by unfold maxLen; omega)
   exact en (some ⟨b2, 0, none⟩, 2) trivial
 ·rcases q with rfl | rfl
  all_goals
   unfold inG
   refine fn_intro Tryz.func200 Tryz.ntmps200 rfl rfl rfl (fun w0 => ?_)
   try simp only [Sx.ap1, Sx.ap2, Sx.ap3]
   refine rr ?_
   intro b1 _
   refine rr ?_
   intro b2 _
   refine rr ?_
   refine wd_rowB (m := 1) (sz := 1) ?_ rfl (by unfold maxLen; omega)
   exact en (some ⟨b2, 0, none⟩, 1) trivial
 ·subst q
  unfold inG
  refine fn_intro Tryz.func200 Tryz.ntmps200 rfl rfl rfl (fun w0 => ?_)
  try simp only [Sx.ap1, Sx.ap2, Sx.ap3]
  refine rr ?_
  intro b1 _
  refine rr ?_
  exact en (none, 0) trivial
 ·subst q
  unfold inG
  refine fn_intro Tryz.func200 Tryz.ntmps200 rfl rfl rfl (fun w0 => ?_)
  try simp only [Sx.ap1, Sx.ap2, Sx.ap3]
  refine rr ?_
  intro b1 _
  refine rr ?_
  refine cl (systemEC imm) ?_
  intro z _
  try simp only [Sx.ap1, Sx.ap2, Sx.ap3]
  refine rr ?_
  exact en z trivial
 ·rcases q with rfl | rfl
  all_goals
   unfold inG
   refine fn_intro Tryz.func200 Tryz.ntmps200 rfl rfl rfl (fun w0 => ?_)
   try simp only [Sx.ap1, Sx.ap2, Sx.ap3]
   refine rr ?_
   intro b1 _
   refine rr ?_
   exact en (none, 0) trivial
theorem goesEC (i : In) : FnC (α := Unit) Tryz.prog 136 [inG i] [] [] (fun _ => .bool (goesF i)) (fun _ => []) (fun _ => True) := by
 have hr := rightIC i
 unfold goesF
 generalize goodI i = g at *
 obtain ⟨op, a, b, c, imm⟩ := i
 unfold inG at *
 dsimp only
 by_cases h : 15 ≤ op ∧ op ≤ 19
 ·rw [decide_eq_true h, Bool.true_and]
  have : op = 15 ∨ op = 16 ∨ op = 17 ∨ op = 18 ∨ op = 19 := by omega
  rcases this with rfl | rfl | rfl | rfl | rfl
  all_goals
   refine fn_intro Tryz.func136 Tryz.ntmps136 rfl rfl rfl (fun w0 => ?_)
   try simp only [Sx.ap1, Sx.ap2, Sx.ap3]
   refine rr ?_
   intro b1 _
   refine rr ?_
   refine cl (hr) ?_
   intro _ _
   try simp only [Sx.ap1, Sx.ap2, Sx.ap3]
   refine rr ?_
   exact en () trivial
 ·rw [decide_eq_false h, Bool.false_and]
  refine fn_intro Tryz.func136 Tryz.ntmps136 rfl rfl rfl (fun w0 => ?_)
  try simp only [Sx.ap1, Sx.ap2, Sx.ap3]
  refine rr ?_
  intro b1 _
  refine rr ?_
  exact en () trivial
theorem actsEC (i : In) : FnC (α := Unit) Tryz.prog 196 [inG i] [] [] (fun _ => .bool (actsF i)) (fun _ => []) (fun _ => True) := by
 have hr := rightIC i
 unfold actsF
 generalize goodI i = g at *
 obtain ⟨op, a, b, c, imm⟩ := i
 unfold inG at *
 dsimp only
 by_cases h : op = 4 ∨ op = 5 ∨ op = 12 ∨ op = 13 ∨ op = 14 ∨ op = 20
 ·rw [decide_eq_true h, Bool.true_and]
  rcases h with rfl | rfl | rfl | rfl | rfl | rfl
  all_goals
   refine fn_intro Tryz.func196 Tryz.ntmps196 rfl rfl rfl (fun w0 => ?_)
   try simp only [Sx.ap1, Sx.ap2, Sx.ap3]
   refine rr ?_
   intro b1 _
   refine rr ?_
   refine cl (hr) ?_
   intro _ _
   try simp only [Sx.ap1, Sx.ap2, Sx.ap3]
   refine rr ?_
   exact en () trivial
 ·rw [decide_eq_false h, Bool.false_and]
  refine fn_intro Tryz.func196 Tryz.ntmps196 rfl rfl rfl (fun w0 => ?_)
  try simp only [Sx.ap1, Sx.ap2, Sx.ap3]
  refine rr ?_
  intro b1 _
  refine rr ?_
  exact en () trivial
theorem lateEC (i : In) : FnC (α := Unit) Tryz.prog 138 [inG i] [] [] (fun _ => .bool (lateF i)) (fun _ => []) (fun _ => True) := by
 have hr := rightIC i
 unfold lateF
 generalize goodI i = g at *
 obtain ⟨op, a, b, c, imm⟩ := i
 unfold inG at *
 dsimp only
 cases g with
 | false =>
  refine fn_intro Tryz.func138 Tryz.ntmps138 rfl rfl rfl (fun w0 => ?_)
  try simp only [Sx.ap1, Sx.ap2, Sx.ap3]
  refine rr ?_
  intro b1 _
  refine rr ?_
  refine cl (hr) ?_
  intro _ _
  try simp only [Sx.ap1, Sx.ap2, Sx.ap3]
  refine rr ?_
  exact en () trivial
 | true =>
  rw [Bool.true_and]
  by_cases h : op = 12
  ·rw [decide_eq_true h, Bool.true_or]
   refine fn_intro Tryz.func138 Tryz.ntmps138 rfl rfl rfl (fun w0 => ?_)
   try simp only [Sx.ap1, Sx.ap2, Sx.ap3]
   refine rr ?_
   intro b1 _
   refine rr ?_
   refine cl (hr) ?_
   intro _ _
   try simp only [Sx.ap1, Sx.ap2, Sx.ap3]
   refine rr ?_
   exact en () trivial
  ·rw [decide_eq_false h, Bool.false_or]
   by_cases h2 : op = 20
   ·rw [decide_eq_true h2, Bool.true_and]
    refine fn_intro Tryz.func138 Tryz.ntmps138 rfl rfl rfl (fun w0 => ?_)
    try simp only [Sx.ap1, Sx.ap2, Sx.ap3]
    refine rr ?_
    intro b1 _
    refine rr ?_
    refine cl (hr) ?_
    intro _ _
    try simp only [Sx.ap1, Sx.ap2, Sx.ap3]
    refine rr ?_
    exact en () trivial
   ·rw [decide_eq_false h2, Bool.false_and]
    refine fn_intro Tryz.func138 Tryz.ntmps138 rfl rfl rfl (fun w0 => ?_)
    try simp only [Sx.ap1, Sx.ap2, Sx.ap3]
    refine rr ?_
    intro b1 _
    refine rr ?_
    refine cl (hr) ?_
    intro _ _
    try simp only [Sx.ap1, Sx.ap2, Sx.ap3]
    refine rr ?_
    exact en () trivial
theorem writesEC (i : In) : FnC (α := Unit) Tryz.prog 148 [inG i] [] [] (fun _ => .int .i64 (writesF i)) (fun _ => []) (fun _ => True) := by
 have hr := rightIC i
 have hf := fieldsEC i
 unfold writesF
 generalize goodI i = g at *
 cases g with
 | false =>
  rw [if_neg (by simp)]
  unfold inG at *
  refine fn_intro Tryz.func148 Tryz.ntmps148 rfl rfl rfl (fun w0 => ?_)
  try simp only [Sx.ap1, Sx.ap2, Sx.ap3]
  refine rr ?_
  intro b1 _
  refine rr ?_
  refine cl (hr) ?_
  intro _ _
  try simp only [Sx.ap1, Sx.ap2, Sx.ap3]
  refine rr ?_
  exact en () trivial
 | true =>
  rw [if_pos rfl]
  unfold inG at *
  refine fn_intro Tryz.func148 Tryz.ntmps148 rfl rfl rfl (fun w0 => ?_)
  try simp only [Sx.ap1, Sx.ap2, Sx.ap3]
  refine rr ?_
  intro b1 _
  refine rr ?_
  refine cl (hr) ?_
  intro _ _
  try simp only [Sx.ap1, Sx.ap2, Sx.ap3]
  refine rr ?_
  refine cl (hf) ?_
  intro z _
  try simp only [Sx.ap1, Sx.ap2, Sx.ap3]
  refine rr ?_
  exact en () trivial
end Go.Proofs.YtkolmklfgbimoaaGreatDoor
namespace Go.Proofs.YtkolmklfgbimoaaGreatDoor
open Go Go.Sx Go.Sx.Chunk
set_option maxRecDepth 100000
theorem indexNIC (a : Option Addr) (c : Nat) (l : List Int) (x : Int) (hl : l.length ≤ 1000000000000) : FnC Tryz.prog 201 [.slice a l.length c, .int .i64 x] [] [rng a (i64C l)] (fun v : Int => .int .i64 v) (fun _ => []) (fun v => decide (0 ≤ v) = l.contains x) := by
 have hlen := i64C_len l
 refine fn_intro Tryz.func201 Tryz.ntmps201 rfl rfl rfl (fun w0 => ?_)
 try simp only [Sx.ap1, Sx.ap2, Sx.ap3]
 refine rr ?_
 refine lo [0, 1, 7] (fun k : Nat => [(8, .int .i64 (k : Int))]) (fun k => []) (fun k => k ≤ l.length ∧ (l.take k).contains x = false) (fun k => l.length - k) 0 ⟨Nat.zero_le _, by simp⟩ ?_
 rintro k ⟨hk, hany⟩ K1 hK1
 try dsimp only at hk hany ⊢
 by_cases hlt : k < l.length
 ·obtain ⟨v, hvk⟩ := some_at hlt
  have hget : (i64C l)[(k : Int).toNat * 1]? = some (.int .i64 v) := by rw [show (k : Int).toNat * 1 = k by omega]; exact i64C_get hvk
  refine w_use (fun w hw => (hw.pick 0 rfl).rng_some (by omega)) ?_
  rintro ⟨g1, rfl⟩
  by_cases hx : x = v
  ·subst hx
   refine rr ?_
   refine en (k : Int) ?_
   rw [List.contains_iff_mem.2 (List.mem_of_getElem? hvk)]
   simp
  ·skip
   refine rr ?_
   refine ro hK1 (k + 1) ⟨by omega, ?_⟩
   rw [List.take_add_one, hvk]
   simp only [Option.toList_some, List.contains_eq_mem, List.mem_append, List.mem_singleton, decide_eq_false_iff_not, not_or] at hany ⊢
   exact ⟨hany, hx⟩
 ·obtain rfl : k = l.length := by omega
  rw [List.take_length] at hany
  refine rr ?_
  refine en (-1) ?_
  rw [hany]; rfl
theorem containsNIC (a : Option Addr) (c : Nat) (l : List Int) (x : Int) (hl : l.length ≤ 1000000000000) : FnC (α := Unit) Tryz.prog 149 [.slice a l.length c, .int .i64 x] [] [rng a (i64C l)] (fun _ => .bool (l.contains x)) (fun _ => []) (fun _ => True) := by
 have h := indexNIC a c l x hl
 refine fn_intro Tryz.func149 Tryz.ntmps149 rfl rfl rfl (fun w0 => ?_)
 try simp only [Sx.ap1, Sx.ap2, Sx.ap3]
 refine rr ?_
 refine cl (h) ?_
 intro v hv
 try simp only [Sx.ap1, Sx.ap2, Sx.ap3]
 rw [← hv]
 refine rr ?_
 exact en () trivial
theorem fnc_rows {α : Type} {P : Program} {f : FuncId} {args : List Value} {a : Option Addr} {c e sz n : Nat} {xs : List Value} {A B : List Chunk} {val : α → Value} {out : α → List Chunk} {Φ : α → Prop} (hc : Called P f)
  (h1 : ∀ g, a = some ⟨g, 0, none⟩ → FnC P f args (row a c e sz n xs :: A) B val out Φ) (h2 : a = none → c = 0 → n = 0 → FnC P f args (row a c e sz n xs :: A) B val out Φ) : FnC P f args (row a c e sz n xs :: A) B val out Φ := by
 refine ⟨hc, fun w hw => ?_⟩
 have hown : w.ownsRow 0 e sz (.slice a n c) n xs := hw.sep.1
 rcases hown.2 with ⟨hn, h0⟩ | ⟨g2, cap2, cur, hs, _⟩
 ·simp only [Value.slice.injEq] at hn
  exact (h2 hn.1 hn.2.2 h0).run w hw
 ·simp only [Value.slice.injEq] at hs
  exact (h1 g2 hs.1).run w hw
theorem sortIC (a : Option Addr) (c : Nat) (l : List Int) (hl : l.length ≤ 1000000000000) : FnC (α := Unit) Tryz.prog 189 [.slice a l.length c] [row a c 3 1 l.length (i64C l)] [] (fun _ => .tuple #[]) (fun _ => [row a c 3 1 l.length (i64C (l.mergeSort fun x y => decide (x ≤ y)))]) (fun _ => True) := by
 have hms : (l.mergeSort fun x y => decide (x ≤ y)).length = l.length := List.length_mergeSort l
 have hcl : Called Tryz.prog 189 := ⟨_, _, Tryz.func189, rfl, by kernel_rfl⟩
 refine fnc_rows hcl (fun g hg => ?_) (fun ha hc0 hn => ?_)
 ·subst hg
  have h := fnc_put (P := Tryz.prog) (f := 189) (args := [.slice (some ⟨g, 0, none⟩) l.length c]) (g := g) (cap := c) (k := l.length) (t := 3) (l := l) (l2 := l.mergeSort fun x y => decide (x ≤ y)) (v := .tuple #[]) hcl hms (Nat.le_refl _) (fun w hH hlt _ => _root_.Go.Proofs.Tryz.slices_Sort_int g 0 c l w hH hlt (by omega))
  rw [show (l.mergeSort fun x y => decide (x ≤ y)).take l.length = l.mergeSort fun x y => decide (x ≤ y) from List.take_of_length_le (by rw [hms]; exact Nat.le_refl _)] at h
  exact h
 ·subst ha
  subst hc0
  obtain rfl : l = [] := List.eq_nil_of_length_eq_zero hn
  refine ⟨hcl, fun w hw => (_root_.Go.Proofs.Tryz.slices_Sort_int_none none 0 w).mono fun e w' ⟨he, hw'⟩ => ⟨(), he, ?_, trivial⟩⟩
  subst hw'
  simpa using hw
theorem compactIC (a : Option Addr) (c : Nat) (l : List Int) (hl : l.length ≤ 1000000000000) : FnC (α := Unit) Tryz.prog 203 [.slice a l.length c] [row a c 3 1 l.length (i64C l)] [] (fun _ => .slice a (Lib.compact l).length c) (fun _ => [row a c 3 1 (Lib.compact l).length (i64C (Lib.compact l))]) (fun _ => True) := by
 have hms := Lib.compact_length_le l
 have hcl : Called Tryz.prog 203 := ⟨_, _, Tryz.func203, rfl, by kernel_rfl⟩
 refine fnc_rows hcl (fun g hg => ?_) (fun ha hc0 hn => ?_)
 ·subst hg
  have h := fnc_put (P := Tryz.prog) (f := 203) (args := [.slice (some ⟨g, 0, none⟩) l.length c]) (g := g) (cap := c) (k := (Lib.compact l).length) (t := 3) (l := l) (l2 := Lib.compact l ++ List.replicate (l.length - (Lib.compact l).length) 0) (v := .slice (some ⟨g, 0, none⟩) (Lib.compact l).length c) hcl (by simp; omega) hms (fun w hH hlt hcap => (_root_.Go.Proofs.Tryz.slices_Compact_int g 0 c l w hH (by omega) hcap).mono fun e w' ⟨he, q, hw'⟩ => ⟨he, q, #[], by rw [hw']; simp⟩)
  rw [List.take_left] at h
  exact h
 ·subst ha
  subst hc0
  obtain rfl : l = [] := List.eq_nil_of_length_eq_zero hn
  refine ⟨hcl, fun w hw => (_root_.Go.Proofs.Tryz.slices_Compact_int_empty none 0 w).mono fun e w' ⟨he, hw'⟩ => ⟨(), he, ?_, trivial⟩⟩
  subst hw'
  rw [show Lib.compact ([] : List Int) = [] from rfl]
  simpa using hw
end Go.Proofs.YtkolmklfgbimoaaGreatDoor
namespace Go.Proofs.YtkolmklfgbimoaaGreatDoor
open Go Go.Sx Go.Sx.Chunk
def boxS (x b : Nat) : Chunk := blk x [.pointer (some ⟨b, 0, none⟩)] 263
theorem allSC (b : Nat) : FnC Tryz.prog 187 [.pointer (some ⟨b, 0, none⟩)] [] [] (fun (x : Nat) => .func (.func 226) #[] #[.pointer (some ⟨x, 0, none⟩)]) (fun x => [boxS x b]) (fun _ => True) := by
 unfold boxS
 refine fn_intro Tryz.func187 Tryz.ntmps187 rfl rfl rfl (fun w0 => ?_)
 try simp only [Sx.ap1, Sx.ap2, Sx.ap3]
 refine rr ?_
 intro x _
 refine rr ?_
 exact en x trivial
set_option maxRecDepth 100000 in
set_option maxHeartbeats 4000000 in
theorem allIC {σ τ : Type} (ly x b : Nat) (m : Option Nat) (oa : Option Addr) (oc : Nat) (l : List Int) (hl : l.length ≤ 1000000000000) (Hb : σ → List Chunk) (Hx : τ → List Chunk) (φ : List Int → σ → Prop) (ψ : τ → Prop) (s0 : σ)
  (hy : ∀ pre e rest q, l = pre ++ e :: rest → φ pre q → YdC Tryz.prog ly [.int .i64 e] (Hb q) (fun z : σ ⊕ τ => .bool z.isLeft) (Sum.elim Hb Hx) (Sum.elim (φ (pre ++ [e])) ψ))
  (hbw : ∀ q, allW (Hb q) = true) (hxw : ∀ t, allW (Hx t) = true) (h0 : φ [] s0) :
  FnC Tryz.prog 226 [.func (.yield ly) #[] #[], .pointer (some ⟨x, 0, none⟩)] ((boxS x b :: setI b m oa oc l) ++ Hb s0) [] (fun _ : σ ⊕ τ => .tuple #[])
   (Sum.elim (fun q => (boxS x b :: setI b m oa oc l) ++ Hb q) (fun t => (boxS x b :: setI b m oa oc l) ++ Hx t)) (Sum.elim (φ l) ψ) := by
 have hil := i64C_len l
 unfold boxS setI at *
 generalize mapI m l = mp at *
 refine fn_intro Tryz.func226 Tryz.ntmps226 rfl rfl rfl (fun w0 => ?_)
 try simp only [Sx.ap1, Sx.ap2, Sx.ap3]
 try simp only [List.cons_append, List.nil_append]
 refine rr ?_
 refine w_loop (α := Nat × σ) (fun z => [(0, .func (.yield ly) #[] #[]), (8, .slice oa l.length oc), (9, .int .i64 (l.length : Int)), (10, .int .i64 (z.1 : Int))])
  (fun z => [_, _, _, _] ++ Hb z.2)
  (fun z => z.1 ≤ l.length ∧ φ (l.take z.1) z.2) (fun z => l.length - z.1) (0, s0) ⟨rfl, rfl, rfl, rfl, trivial⟩ rfl ⟨Nat.zero_le _, h0⟩ ?_
 rintro ⟨k, q⟩ ⟨hk, hs⟩ K1 hK1
 dsimp only at hk hs ⊢
 simp only [List.cons_append, List.nil_append]
 by_cases hlt : k < l.length
 ·obtain ⟨e, he⟩ := some_at hlt
  have hsplit : l = l.take k ++ e :: l.drop (k + 1) := by
   obtain ⟨hi, hb⟩ := List.getElem?_eq_some_iff.1 he
   rw [← hb, ← List.drop_eq_getElem_cons hi, List.take_append_drop]
  have hyd := hy _ e _ q hsplit hs
  refine w_use (fun w hw => (hw.pick 2 rfl).row_some (by omega)) ?_
  rintro ⟨g1, rfl⟩
  have hget : (i64C l)[0 + (k : Int).toNat * 1]? = some (.int .i64 e) := by rw [show 0 + (k : Int).toNat * 1 = k by omega]; exact i64C_get he
  refine rn ?_
  refine w_region rfl ?_
  refine rn ?_
  refine w_region rfl ?_
  refine rn ?_
  refine w_regionYn 2 rfl rfl ?_
  refine rr ?_
  refine w_yieldT (R := [_, _, _, _]) hyd rfl rfl rfl ?_ rfl rfl ?_
  ·intro z; cases z with
   | inl s => exact hbw s
   | inr t => exact hxw t
  intro z hz
  cases z with
  | inl s' =>
   simp only [Sum.elim_inl, Sum.isLeft_inl] at hz ⊢
   refine rr ?_
   refine w_round hK1 (k + 1, s') ⟨by show k + 1 ≤ l.length; omega, ?_⟩ (by show l.length - (k + 1) < l.length - k; omega) ?_ ⟨rfl, rfl, rfl, rfl, trivial⟩
   ·show φ (l.take (k + 1)) s'
    rw [List.take_add_one, he]; exact hz
   ·rfl
  | inr t' =>
   simp only [Sum.elim_inr, Sum.isLeft_inr] at hz ⊢
   refine rr ?_
   exact weE (.inr t') hz
 ·obtain rfl : k = l.length := by omega
  rw [List.take_length] at hs
  refine rr ?_
  exact weE (.inl q) hs
end Go.Proofs.YtkolmklfgbimoaaGreatDoor
namespace Go.Proofs.YtkolmklfgbimoaaGreatDoor
open Go Go.Sx Go.Sx.Chunk
set_option maxRecDepth 100000
theorem zeroFC (n : Int) : FnC (α := Unit) Tryz.prog 202 [.int .i64 n] [] [] (fun _ => .bool (decide (n = 0))) (fun _ => []) (fun _ => True) := by
 refine fn_intro Tryz.func202 Tryz.ntmps202 rfl rfl rfl (fun w0 => ?_)
 try simp only [Sx.ap1, Sx.ap2, Sx.ap3]
 refine rr ?_
 exact en () trivial
theorem indexZC (a : Option Addr) (c : Nat) (l : List Int) (hl : l.length ≤ 1000000000000) : FnC Tryz.prog 224 [.slice a l.length c, .func (.func 202) #[] #[]] [] [rng a (i64C l)] (fun v : Int => .int .i64 v) (fun _ => []) (fun v => (v = -1 ∧ ∀ z ∈ l, z ≠ 0) ∨ ∃ k : Nat, v = (k : Int) ∧ k < l.length ∧ l[k]? = some 0 ∧ ∀ z ∈ l.take k, z ≠ 0) := by
 have hlen := i64C_len l
 refine fn_intro Tryz.func224 Tryz.ntmps224 rfl rfl rfl (fun w0 => ?_)
 try simp only [Sx.ap1, Sx.ap2, Sx.ap3]
 refine rr ?_
 refine lo [0, 1, 7] (fun k : Nat => [(8, .int .i64 (k : Int))]) (fun k => []) (fun k => k ≤ l.length ∧ ∀ z ∈ l.take k, z ≠ 0) (fun k => l.length - k) 0 ⟨Nat.zero_le _, by simp⟩ ?_
 rintro k ⟨hk, hany⟩ K1 hK1
 try dsimp only at hk hany ⊢
 by_cases hlt : k < l.length
 ·obtain ⟨v, hvk⟩ := some_at hlt
  have hget : (i64C l)[(k : Int).toNat * 1]? = some (.int .i64 v) := by rw [show (k : Int).toNat * 1 = k by omega]; exact i64C_get hvk
  refine w_use (fun w hw => (hw.pick 0 rfl).rng_some (by omega)) ?_
  rintro ⟨g1, rfl⟩
  refine rr ?_
  refine clv (zeroFC v) ?_
  intro _ _
  try simp only [Sx.ap1, Sx.ap2, Sx.ap3]
  by_cases hx : v = 0
  ·rw [decide_eq_true hx]
   refine rr ?_
   exact en (k : Int) (.inr ⟨k, rfl, hlt, by rw [hvk, hx], hany⟩)
  ·rw [decide_eq_false hx]
   refine rr ?_
   refine ro hK1 (k + 1) ⟨by omega, ?_⟩
   rw [List.take_add_one, hvk]
   intro z hz
   simp only [Option.toList_some, List.mem_append, List.mem_singleton] at hz
   rcases hz with hz | rfl
   ·exact hany z hz
   ·exact hx
 ·obtain rfl : k = l.length := by omega
  rw [List.take_length] at hany
  refine rr ?_
  exact en (-1) (.inl ⟨rfl, hany⟩)
def nzF (l : List Int) : List Int := l.filter fun n => decide (n ≠ 0)
theorem nzF_all {l : List Int} (h : ∀ z ∈ l, z ≠ 0) : nzF l = l := List.filter_eq_self.2 (fun z hz => by simpa using h z hz)
theorem nzF_snoc {l : List Int} {k : Nat} {v : Int} (h : l[k]? = some v) : nzF (l.take (k + 1)) = nzF (l.take k) ++ (if v = 0 then [] else [v]) := by
 unfold nzF
 rw [List.take_add_one, h, List.filter_append]
 by_cases hv : v = 0
 ·simp [hv]
 ·simp [hv]
theorem nzF_len (l : List Int) (k : Nat) : (nzF (l.take k)).length ≤ k := Nat.le_trans (List.length_filter_le _ _) (by simp; omega)
structure DelI (l : List Int) (x : Nat × Nat × List Int) : Prop where
 len : x.2.2.length = l.length
 lt : x.1 < x.2.1
 le : x.2.1 ≤ l.length
 pre : x.2.2.take x.1 = nzF (l.take x.2.1)
 post : x.2.2.drop x.2.1 = l.drop x.2.1
theorem DelI.at {l : List Int} {x : Nat × Nat × List Int} (h : DelI l x) {v : Int} (hv : l[x.2.1]? = some v) : x.2.2[x.2.1]? = some v := by
 have h1 : (x.2.2.drop x.2.1)[0]? = (l.drop x.2.1)[0]? := by rw [h.post]
 rw [List.getElem?_drop, List.getElem?_drop, Nat.add_zero] at h1
 rw [h1]; exact hv
theorem DelI.drop {l : List Int} {i j : Nat} {xs : List Int} (h : DelI l (i, j, xs)) (hj : l[j]? = some 0) (hlt : j < l.length) : DelI l (i, j + 1, xs) :=
 ⟨h.len, by have := h.lt; dsimp only at this ⊢; omega, hlt, by
  have := h.pre; dsimp only at this ⊢; rw [nzF_snoc hj, if_pos rfl, List.append_nil]; exact this, by
  have := h.post; dsimp only at this ⊢
  rw [← List.drop_drop, this, List.drop_drop]⟩
theorem DelI.keep {l : List Int} {i j : Nat} {xs : List Int} {v : Int} (h : DelI l (i, j, xs)) (hj : l[j]? = some v) (hv : v ≠ 0) (hlt : j < l.length) : DelI l (i + 1, j + 1, xs.set i v) := by
 obtain ⟨h1, h2, h3, h4, h5⟩ := h
 dsimp only at h1 h2 h3 h4 h5
 refine ⟨by simpa using h1, by dsimp only; omega, hlt, ?_, ?_⟩
 ·dsimp only
  rw [nzF_snoc hj, if_neg hv, ← h4, List.take_add_one, List.take_set_of_le (Nat.le_refl _), List.getElem?_set_self (by omega)]
  rfl
 ·dsimp only
  rw [List.drop_set_of_lt (by omega), ← List.drop_drop, h5, List.drop_drop]
set_option maxHeartbeats 2000000 in
theorem deleteZC (a : Option Addr) (c : Nat) (l : List Int) (hl : l.length ≤ 1000000000) : FnC (α := Unit) Tryz.prog 185 [.slice a l.length c, .func (.func 202) #[] #[]] [row a c 3 1 l.length (i64C l)] [] (fun _ => .slice a (nzF l).length c) (fun _ => [row a c 3 1 (nzF l).length (i64C (nzF l))]) (fun _ => True) := by
 have h := indexZC a c l (by omega)
 refine fn_intro Tryz.func185 Tryz.ntmps185 rfl rfl rfl (fun w0 => ?_)
 try simp only [Sx.ap1, Sx.ap2, Sx.ap3]
 refine rr ?_
 refine cl (h) ?_
 intro v hv
 try simp only [Sx.ap1, Sx.ap2, Sx.ap3]
 rcases hv with ⟨rfl, hv⟩ | ⟨k, rfl, hk, hk0, hv⟩
 ·rw [nzF_all hv]
  refine rr ?_
  exact en () trivial
 refine w_use (fun w hw => (hw.pick 0 rfl).row_cap) fun hcap => ?_
 refine w_use (fun w hw => (hw.pick 0 rfl).row_some (by omega)) ?_
 rintro ⟨g, rfl⟩
 refine rr ?_
 refine lo [0, 1] (fun x : Nat × Nat × List Int => [(5, .int .i64 (x.1 : Int)), (6, .int .i64 (x.2.1 : Int))]) (fun x => [(0, row (some ⟨g, 0, none⟩) c 3 1 l.length (i64C x.2.2))]) (fun x => DelI l x) (fun x => l.length - x.2.1) (k, k + 1, l) ⟨rfl, Nat.lt_succ_self k, hk, by rw [nzF_snoc hk0, if_pos rfl, List.append_nil, nzF_all hv], rfl⟩ ?_
 rintro ⟨i, j, xs⟩ hx K1 hK1
 have hx1 := hx.len
 have hx2 := hx.lt
 have hx3 := hx.le
 dsimp only at hx1 hx2 hx3 ⊢
 have hxl := i64C_len xs
 by_cases hlt : j < l.length
 ·obtain ⟨v, hvj⟩ := some_at hlt
  have hvx := hx.at hvj
  dsimp only at hvx
  have hget : (i64C xs)[0 + (j : Int).toNat * 1]? = some (.int .i64 v) := by rw [show 0 + (j : Int).toNat * 1 = j by omega]; exact i64C_get hvx
  refine rr ?_
  refine clv (zeroFC v) ?_
  intro _ _
  try simp only [Sx.ap1, Sx.ap2, Sx.ap3]
  by_cases hv0 : v = 0
  ·rw [decide_eq_true hv0]
   subst hv0
   refine rr ?_
   exact ro hK1 (i, j + 1, xs) (hx.drop hvj hlt)
  ·rw [decide_eq_false hv0]
   refine rr ?_
   rw [show 0 + (i : Int).toNat * 1 = i by omega, i64C_set]
   exact ro hK1 (i + 1, j + 1, xs.set i v) (hx.keep hvj hv0 hlt)
 ·obtain rfl : j = l.length := by omega
  have hpre := hx.pre
  dsimp only at hpre
  rw [List.take_length] at hpre
  have hnl : (nzF l).length = i := by rw [← hpre, List.length_take]; omega
  refine rr ?_
  have hsl : sliceV (some ⟨g, 0, none⟩) c 1 (((some (i : Int)).getD 0).toNat) (((none : Option Int).getD (l.length : Int)).toNat) = .slice (some ⟨g, i, none⟩) (l.length - i) (c - i) := by
   unfold sliceV
   simp only [Option.getD_some, Option.getD_none, Int.toNat_natCast, Nat.mul_one]
   first | rfl | (rw [if_neg (by omega)]; simp [Addr.add]; omega) | simp [Addr.add]
  refine w_eff (eff_clear (i := 0) (zv := .int .i64 0) (k := l.length - i) (o := i) (c := c - i) T (congrArg some hsl) rfl rfl rfl rfl rfl (by omega)) (fun _ _ => ?_)
  have hce : List.take (i * 1) (List.take i (i64C xs) ++ List.replicate (l.length - i) (Value.int .i64 0) ++ List.drop (i + (l.length - i)) (i64C xs)) = i64C (nzF l) := by
   rw [Nat.mul_one, List.append_assoc, List.take_left' (by rw [List.length_take, hxl]; omega), ← hpre, ← i64C_take, Nat.mul_one]
  refine w_turn (fun w hw => by have := hw.row_shrink (m := i) (by omega); rw [hce] at this; exact this) ?_
  rw [hnl]
  refine rr ?_
  exact en () trivial
def rdL (i : In) : List Int := if goodI i then Lib.compact ((nzF (fieldsF i).1).mergeSort fun x y => decide (x ≤ y)) else []
theorem rdL_len (i : In) : (rdL i).length ≤ 2 := by
 unfold rdL
 split
 ·have h1 := Lib.compact_length_le ((nzF (fieldsF i).1).mergeSort fun x y => decide (x ≤ y))
  rw [List.length_mergeSort] at h1
  have h2 : (nzF (fieldsF i).1).length ≤ (fieldsF i).1.length := List.length_filter_le _ _
  have h3 := fieldsF_len i
  omega
 ·simp
theorem readsEC (i : In) : FnC Tryz.prog 150 [inG i] [] [] (fun z : Option Addr × Nat => .slice z.1 (rdL i).length z.2) (fun z => [row z.1 z.2 3 1 (rdL i).length (i64C (rdL i))]) (fun _ => True) := by
 have hr := rightIC i
 have hf := fieldsEC i
 have hfl := fieldsF_len i
 unfold rdL
 generalize goodI i = g at *
 generalize (fieldsF i).2 = r at *
 generalize (fieldsF i).1 = l at *
 have hnl : (nzF l).length ≤ l.length := List.length_filter_le _ _
 have hml : ((nzF l).mergeSort fun x y => decide (x ≤ y)).length = (nzF l).length := List.length_mergeSort _
 have h1 := fun a c => deleteZC a c l (by omega)
 have h2 := fun a c => sortIC a c (nzF l) (by omega)
 have h3 := fun a c => compactIC a c ((nzF l).mergeSort fun x y => decide (x ≤ y)) (by rw [hml]; omega)
 rw [hml] at h3
 unfold inG at *
 cases g with
 | false =>
  rw [if_neg (by simp)]
  refine fn_intro Tryz.func150 Tryz.ntmps150 rfl rfl rfl (fun w0 => ?_)
  try simp only [Sx.ap1, Sx.ap2, Sx.ap3]
  refine rr ?_
  intro b1 _
  refine rr ?_
  refine cl (hr) ?_
  intro _ _
  try simp only [Sx.ap1, Sx.ap2, Sx.ap3]
  refine rr ?_
  exact en (none, 0) trivial
 | true =>
  rw [if_pos rfl]
  refine fn_intro Tryz.func150 Tryz.ntmps150 rfl rfl rfl (fun w0 => ?_)
  try simp only [Sx.ap1, Sx.ap2, Sx.ap3]
  refine rr ?_
  intro b1 _
  refine rr ?_
  refine cl (hr) ?_
  intro _ _
  try simp only [Sx.ap1, Sx.ap2, Sx.ap3]
  refine rr ?_
  refine cl (hf) ?_
  intro z _
  try simp only [Sx.ap1, Sx.ap2, Sx.ap3]
  refine rr ?_
  refine cl (h1 z.1 z.2) ?_
  intro _ _
  try simp only [Sx.ap1, Sx.ap2, Sx.ap3]
  refine rr ?_
  refine cl (h2 z.1 z.2) ?_
  intro _ _
  try simp only [Sx.ap1, Sx.ap2, Sx.ap3]
  refine rr ?_
  refine cl (h3 z.1 z.2) ?_
  intro _ _
  try simp only [Sx.ap1, Sx.ap2, Sx.ap3]
  refine rr ?_
  exact en z trivial
end Go.Proofs.YtkolmklfgbimoaaGreatDoor
namespace Go.Proofs.YtkolmklfgbimoaaGreatDoor
open Go Go.Sx Go.Sx.Chunk
set_option maxRecDepth 100000
theorem compact2 (p q : Int) : ∀ z, z ∈ Lib.compact [p, q] ↔ z = p ∨ z = q := by
 intro z
 have h : Lib.compact [p, q] = if q = p then [p] else [p, q] := by
  unfold Lib.compact
  rw [show ([p, q] : List Int).length = 1 + 1 from rfl, Lib.compactUpTo_succ, show (1 : Nat) = 0 + 1 from rfl, Lib.compactUpTo_succ]
  by_cases hq : q = p
  ·simp [Lib.compactUpTo, Lib.keeps, hq]
  ·simp [Lib.compactUpTo, Lib.keeps, hq]
 rw [h]
 split
 ·rename_i h1; subst h1; simp
 ·simp
theorem rdL_mem (i : In) (n : Int) (hn : n ≠ 0) : (rdL i).contains n = (goodI i && (fieldsF i).1.contains n) := by
 unfold rdL
 cases goodI i with
 | false => rw [if_neg (by simp)]; simp
 | true =>
  rw [if_pos rfl, Bool.true_and]
  have hfl := fieldsF_len i
  generalize (fieldsF i).1 = l at *
  have hnl : (nzF l).length ≤ 2 := Nat.le_trans (List.length_filter_le _ _) hfl
  have hmem : n ∈ nzF l ↔ n ∈ l := by unfold nzF; simp [hn]
  generalize nzF l = m at *
  have hp := List.mergeSort_perm m (fun x y => decide (x ≤ y))
  generalize (m.mergeSort fun x y => decide (x ≤ y)) = s at *
  have hs : n ∈ s ↔ n ∈ l := hp.mem_iff.trans hmem
  have hsl : s.length ≤ 2 := by rw [hp.length_eq]; exact hnl
  rw [Bool.eq_iff_iff, List.contains_iff_mem, List.contains_iff_mem, ← hs]
  match s, hsl with
  | [], _ => exact Iff.rfl
  | [p], _ => exact Iff.rfl
  | [p, q], _ => rw [compact2]; simp
theorem readsDC (i : In) (n : Int) : FnC (α := Unit) Tryz.prog 195 [inG i, .int .i64 n] [] [] (fun _ => .bool (readsB i n)) (fun _ => []) (fun _ => True) := by
 have hr := readsEC i
 have hl := rdL_len i
 have hm := rdL_mem i n
 unfold readsB
 rw [inG] at *
 by_cases h : n = 0
 ·rw [decide_eq_false (show ¬ n ≠ 0 by simpa using h), Bool.false_and]
  subst h
  refine fn_intro Tryz.func195 Tryz.ntmps195 rfl rfl rfl (fun w0 => ?_)
  try simp only [Sx.ap1, Sx.ap2, Sx.ap3]
  refine rr ?_
  intro b1 _
  refine rr ?_
  exact en () trivial
 ·rw [decide_eq_true (show n ≠ 0 from h), Bool.true_and, ← hm h]
  generalize rdL i = l at *
  have hc := fun a c => containsNIC a c l n (by omega)
  refine fn_intro Tryz.func195 Tryz.ntmps195 rfl rfl rfl (fun w0 => ?_)
  try simp only [Sx.ap1, Sx.ap2, Sx.ap3]
  refine rr ?_
  intro b1 _
  refine rr ?_
  refine cl (hr) ?_
  intro z _
  try simp only [Sx.ap1, Sx.ap2, Sx.ap3]
  refine rr ?_
  refine cl (hc z.1 z.2) ?_
  intro _ _
  try simp only [Sx.ap1, Sx.ap2, Sx.ap3]
  refine rr ?_
  exact en () trivial
end Go.Proofs.YtkolmklfgbimoaaGreatDoor
namespace Go.Proofs.YtkolmklfgbimoaaGreatDoor
open Go Go.Sx Go.Sx.Chunk
set_option maxRecDepth 100000
set_option maxHeartbeats 4000000 in
theorem farC (a b : In) : FnC (α := Unit) Tryz.prog 139 [inG a, inG b] [] [] (fun _ => .int .i64 (farF a b)) (fun _ => []) (fun _ => True) := by
 have w1 := writesEC a
 have w2 := writesEC b
 have r1 := readsDC b (writesF a)
 have r2 := readsDC a (writesF b)
 have c1 := lateEC a
 have c2 := actsEC a
 have c3 := actsEC b
 unfold farF
 generalize readsB b (writesF a) = p1 at *
 generalize readsB a (writesF b) = p2 at *
 generalize lateF a = q1 at *
 generalize actsF a = q2 at *
 generalize actsF b = q3 at *
 generalize writesF a = x at *
 generalize writesF b = y at *
 unfold inG at *
 refine fn_intro Tryz.func139 Tryz.ntmps139 rfl rfl rfl (fun w0 => ?_)
 try simp only [Sx.ap1, Sx.ap2, Sx.ap3]
 refine rr ?_
 intro b1 _
 refine rr ?_
 intro b2 _
 refine rr ?_
 refine dx [0, 2, 1, 3, 4, 5] [0, 2] [] ?_
 refine rr ?_
 refine cld (w1) ?_
 intro _ _
 try simp only [Sx.ap1, Sx.ap2, Sx.ap3]
 refine rr ?_
 refine cle (w2) ?_
 intro _ _
 try simp only [Sx.ap1, Sx.ap2, Sx.ap3]
 refine rr ?_
 refine cl (r1) ?_
 intro _ _
 try simp only [Sx.ap1, Sx.ap2, Sx.ap3]
 cases p1 with
 | true =>
  refine rr ?_
  refine cl (c1) ?_
  intro _ _
  try simp only [Sx.ap1, Sx.ap2, Sx.ap3]
  cases q1 with
  | true =>
   refine rr ?_
   exact en () trivial
  | false =>
   refine rr ?_
   refine cl (r1) ?_
   intro _ _
   try simp only [Sx.ap1, Sx.ap2, Sx.ap3]
   refine rr ?_
   exact en () trivial
 | false =>
  refine rr ?_
  refine cl (r1) ?_
  intro _ _
  try simp only [Sx.ap1, Sx.ap2, Sx.ap3]
  by_cases hx : x = 0
  ·have hx2 : decide (x ≠ 0) = false := by simpa using hx
   rw [hx2]
   refine rr ?_
   refine cl (r2) ?_
   intro _ _
   try simp only [Sx.ap1, Sx.ap2, Sx.ap3]
   cases p2 with
   | true =>
    refine rr ?_
    exact en () trivial
   | false =>
    refine rr ?_
    refine cl (c2) ?_
    intro _ _
    try simp only [Sx.ap1, Sx.ap2, Sx.ap3]
    cases q2 with
    | true =>
     refine rr ?_
     refine cl (c3) ?_
     intro _ _
     try simp only [Sx.ap1, Sx.ap2, Sx.ap3]
     cases q3 with
     | true =>
      refine rr ?_
      exact en () trivial
     | false =>
      refine rr ?_
      exact en () trivial
    | false =>
     refine rr ?_
     exact en () trivial
  ·have hx2 : decide (x ≠ 0) = true := by simpa using hx
   rw [hx2]
   by_cases hy : x = y
   ·rw [decide_eq_true hy]
    refine rr ?_
    exact en () trivial
   ·rw [decide_eq_false hy]
    refine rr ?_
    refine cl (r2) ?_
    intro _ _
    try simp only [Sx.ap1, Sx.ap2, Sx.ap3]
    cases p2 with
    | true =>
     refine rr ?_
     exact en () trivial
    | false =>
     refine rr ?_
     refine cl (c2) ?_
     intro _ _
     try simp only [Sx.ap1, Sx.ap2, Sx.ap3]
     cases q2 with
     | true =>
      refine rr ?_
      refine cl (c3) ?_
      intro _ _
      try simp only [Sx.ap1, Sx.ap2, Sx.ap3]
      cases q3 with
      | true =>
       refine rr ?_
       exact en () trivial
      | false =>
       refine rr ?_
       exact en () trivial
     | false =>
      refine rr ?_
      exact en () trivial
end Go.Proofs.YtkolmklfgbimoaaGreatDoor
namespace Go.Proofs.YtkolmklfgbimoaaGreatDoor
open Go
set_option maxRecDepth 100000
def leftN (at' : List Int) : Nat := (at'.filter fun v => decide (v < 0)).length
structure OrdOk (l : List In) (at' out : List Int) (left : Nat) : Prop where
 len : at'.length = l.length
 below : ∀ v ∈ at', v < (out.length : Int)
 left : leftN at' = left
def muO (l : List In) (at' out : List Int) (left : Nat) : Nat := 2 * left + if candsF l at' (out.length : Int) = [] then 1 else 0
theorem leftN_pos {at' : List Int} (h : 0 < leftN at') : ∃ v ∈ at', v < 0 := by
 unfold leftN at h
 obtain ⟨v, hv⟩ := List.exists_mem_of_length_pos h
 simp only [List.mem_filter, decide_eq_true_eq] at hv
 exact ⟨v, hv.1, hv.2⟩
theorem getD_mem {l : List Int} {k : Nat} {d : Int} (h : k < l.length) : l.getD k d ∈ l := by
 rw [List.getD_eq_getElem?_getD, List.getElem?_eq_getElem h]; exact List.getElem_mem h
theorem first_ready (l : List In) (at' : List Int) (p : Int) (hp : ∀ v ∈ at', v ≤ p - 2) (hn : 0 < leftN at') : ∃ j, j < at'.length ∧ readyF l at' j p = true := by
 obtain ⟨v, hv, hv0⟩ := leftN_pos hn
 have key : ∀ k, (∃ j, j < k ∧ j < at'.length ∧ at'.getD j 0 < 0) → ∃ j, j < at'.length ∧ at'.getD j 0 < 0 ∧ ∀ i, i < j → ¬ at'.getD i 0 < 0 := by
  intro k
  induction k with
  | zero => rintro ⟨j, hj, _⟩; omega
  | succ k ih =>
   intro h
   by_cases hk : ∃ j, j < k ∧ j < at'.length ∧ at'.getD j 0 < 0
   ·exact ih hk
   ·obtain ⟨j, h1, h2, h3⟩ := h
    have : j = k := by
     by_cases hjk : j < k
     ·exact absurd ⟨j, hjk, h2, h3⟩ hk
     ·omega
    subst this
    exact ⟨j, h2, h3, fun i hi hc => hk ⟨i, hi, by omega, hc⟩⟩
 obtain ⟨i, hi, he⟩ := List.mem_iff_getElem.1 hv
 obtain ⟨j, h1, h2, h3⟩ := key at'.length ⟨i, hi, hi, by rw [List.getD_eq_getElem?_getD, List.getElem?_eq_getElem hi]; simp only [Option.getD_some]; rw [he]; exact hv0⟩
 refine ⟨j, h1, ?_⟩
 unfold readyF
 rw [Bool.and_eq_true, List.all_eq_true]
 refine ⟨decide_eq_true h2, fun i hi => ?_⟩
 have hij : i < j := List.mem_range.1 hi
 have h4 := h3 i hij
 have h5 := hp _ (getD_mem (d := 0) (show i < at'.length by omega))
 have h6 := (farF_le (l.getD i nopI) (l.getD j nopI)).2
 unfold blocksF
 rw [decide_eq_false h4, decide_eq_false (show ¬ p < at'.getD i 0 + farF (l.getD i nopI) (l.getD j nopI) by omega)]
 simp
theorem mem_cands {l : List In} {at' : List Int} {p : Int} {j : Nat} : j ∈ candsF l at' p ↔ j < l.length ∧ readyF l at' j p = true := by
 unfold candsF; rw [List.mem_filter, List.mem_range]
theorem bestG_mem (h : List Int) : ∀ (l : List Nat) (b : Option Nat) (j : Nat), bestG h b l = some j → j ∈ l ∨ b = some j
 | [], b, j, hb => .inr hb
 | v :: l, none, j, hb => by
  rcases bestG_mem h l _ j hb with h1 | h1
  ·exact .inl (List.mem_cons_of_mem _ h1)
  ·left; cases h1; exact List.mem_cons_self
 | v :: l, some u, j, hb => by
  rcases bestG_mem h l _ j hb with h1 | h1
  ·exact .inl (List.mem_cons_of_mem _ h1)
  ·split at h1
   ·left; cases h1; exact List.mem_cons_self
   ·exact .inr h1
theorem bestG_some (h : List Int) : ∀ (l : List Nat) (u : Nat), (bestG h (some u) l).isSome = true
 | [], u => rfl
 | v :: l, u => bestG_some h l _
theorem bestF_none {h : List Int} {l : List Nat} : bestF h l = none ↔ l = [] := by
 cases l with
 | nil => exact ⟨fun _ => rfl, fun _ => rfl⟩
 | cons v l =>
  refine ⟨fun hn => ?_, fun hn => by cases hn⟩
  have := bestG_some h l v
  unfold bestF bestG at hn
  rw [hn] at this; cases this
theorem ord_stall {l : List In} {at' out : List Int} {left : Nat} (h : OrdOk l at' out left) (hl : 0 < left) : OrdOk l at' (out ++ [-1]) left ∧ candsF l at' ((out ++ [-1]).length : Int) ≠ [] := by
 have hlen : (((out ++ [-1]).length : Nat) : Int) = (out.length : Int) + 1 := by simp
 refine ⟨⟨h.len, fun v hv => by have := h.below v hv; rw [hlen]; omega, h.left⟩, fun hc => ?_⟩
 obtain ⟨j, h1, h2⟩ := first_ready l at' ((out ++ [-1]).length : Int) (fun v hv => by have := h.below v hv; rw [hlen]; omega) (by rw [h.left]; exact hl)
 have : j ∈ candsF l at' ((out ++ [-1]).length : Int) := mem_cands.2 ⟨by rw [← h.len]; exact h1, h2⟩
 rw [hc] at this; cases this
theorem leftN_set : ∀ (at' : List Int) (b : Nat) (p : Int), 0 ≤ p → b < at'.length → at'.getD b 0 < 0 → leftN (at'.set b p) + 1 = leftN at'
 | [], b, p, _, h, _ => by simp at h
 | a :: l, 0, p, hp, _, h => by
  have h : a < 0 := h
  unfold leftN
  rw [List.set_cons_zero, List.filter_cons, List.filter_cons, if_neg (by simp; omega), if_pos (by simp; omega), List.length_cons]
 | a :: l, b + 1, p, hp, hb, h => by
  have ih := leftN_set l b p hp (by simpa using hb) h
  unfold leftN at ih ⊢
  rw [List.set_cons_succ, List.filter_cons, List.filter_cons]
  split <;> (try simp only [List.length_cons]) <;> omega
theorem ord_put {l : List In} {at' out : List Int} {left b : Nat} (h : OrdOk l at' out left) (hb : b ∈ candsF l at' (out.length : Int)) : OrdOk l (at'.set b (out.length : Int)) (out ++ [(b : Int)]) (left - 1) ∧ 0 < left ∧ b < l.length := by
 obtain ⟨h1, h2⟩ := mem_cands.1 hb
 unfold readyF at h2
 rw [Bool.and_eq_true] at h2
 have h3 := of_decide_eq_true h2.1
 have h4 := leftN_set at' b (out.length : Int) (by omega) (by rw [h.len]; exact h1) h3
 rw [h.left] at h4
 refine ⟨⟨by rw [List.length_set]; exact h.len, fun v hv => ?_, by omega⟩, by omega, h1⟩
 have hlen : (((out ++ [(b : Int)]).length : Nat) : Int) = (out.length : Int) + 1 := by simp
 rw [hlen]
 rcases List.mem_or_eq_of_mem_set hv with hv | rfl
 ·have := h.below v hv; omega
 ·omega
theorem ord_start (l : List In) : OrdOk l (List.replicate l.length (-1)) [] l.length := by
 refine ⟨by simp, fun v hv => ?_, ?_⟩
 ·rw [(List.mem_replicate.1 hv).2]; decide
 ·unfold leftN
  rw [List.filter_eq_self.2 (fun v hv => by rw [(List.mem_replicate.1 hv).2]; rfl)]; simp
theorem cands_start (l : List In) (h : l ≠ []) : candsF l (List.replicate l.length (-1)) 0 ≠ [] := fun hc => by
 have hl : 0 < l.length := List.length_pos_iff.2 h
 have : 0 ∈ candsF l (List.replicate l.length (-1)) 0 := mem_cands.2 ⟨hl, by
  unfold readyF
  rw [List.range_zero, List.all_nil, Bool.and_true, List.getD_eq_getElem?_getD, List.getElem?_replicate, if_pos hl]; rfl⟩
 rw [hc] at this; cases this
theorem orderG_zero (l : List In) (h : List Int) (f : Nat) (at' out : List Int) : orderG l h f at' out 0 = out := by cases f <;> simp [orderG]
theorem orderG_last (l : List In) (h : List Int) : ∀ (f : Nat) (at' out : List Int) (left : Nat), OrdOk l at' out left → 0 < left → muO l at' out left ≤ f → ∃ o b, orderG l h f at' out left = o ++ [((b : Nat) : Int)] ∧ b < l.length
 | 0, at', out, left, _, hl, hm => by unfold muO at hm; omega
 | f + 1, at', out, left, hok, hl, hm => by
  rw [orderG, if_neg (by omega)]
  unfold muO at hm
  cases hb : bestF h (candsF l at' (out.length : Int)) with
  | none =>
   dsimp only
   rw [if_pos (bestF_none.1 hb)] at hm
   obtain ⟨h1, h2⟩ := ord_stall hok hl
   exact orderG_last l h f _ _ _ h1 hl (by unfold muO; rw [if_neg h2]; omega)
  | some b =>
   dsimp only
   have hbm : b ∈ candsF l at' (out.length : Int) := by
    rcases bestG_mem h _ _ _ hb with h1 | h1
    ·exact h1
    ·cases h1
   obtain ⟨h1, h2, h3⟩ := ord_put hok hbm
   by_cases h0 : left - 1 = 0
   ·rw [h0, orderG_zero]; exact ⟨out, b, rfl, h3⟩
   ·exact orderG_last l h f _ _ _ h1 (by omega) (by unfold muO; split <;> omega)
theorem orderG_mem (l : List In) (h : List Int) : ∀ (f : Nat) (at' out : List Int) (left : Nat), (∀ x ∈ out, x = -1 ∨ (0 ≤ x ∧ x < l.length)) → ∀ x ∈ orderG l h f at' out left, x = -1 ∨ (0 ≤ x ∧ x < l.length)
 | 0, _, out, _, ho, x, hx => ho x hx
 | f + 1, at', out, left, ho, x, hx => by
  rw [orderG] at hx
  split at hx
  ·exact ho x hx
  ·split at hx
   ·exact orderG_mem l h f _ _ _ (fun y hy => by
     rcases List.mem_append.1 hy with hy | hy
     ·exact ho y hy
     ·left; simpa using hy) x hx
   ·rename_i b hb
    have hbm : b ∈ candsF l at' (out.length : Int) := by
     rcases bestG_mem h _ _ _ hb with h1 | h1
     ·exact h1
     ·cases h1
    have h1 := (mem_cands.1 hbm).1
    exact orderG_mem l h f _ _ _ (fun y hy => by
     rcases List.mem_append.1 hy with hy | hy
     ·exact ho y hy
     ·right; rw [List.mem_singleton.1 hy]; omega) x hx
theorem orderG_len (l : List In) (h : List Int) : ∀ (f : Nat) (at' out : List Int) (left : Nat), OrdOk l at' out left → (orderG l h f at' out left).length ≤ out.length + muO l at' out left
 | 0, _, out, _, _ => by rw [orderG]; omega
 | f + 1, at', out, left, hok => by
  rw [orderG]
  split
  ·omega
  ·rename_i hl
   cases hb : bestF h (candsF l at' (out.length : Int)) with
   | none =>
    dsimp only
    obtain ⟨h1, h2⟩ := ord_stall hok (by omega)
    have ih := orderG_len l h f _ _ _ h1
    unfold muO at ih ⊢
    rw [if_neg h2] at ih
    rw [if_pos (bestF_none.1 hb)]
    simp only [List.length_append, List.length_singleton] at ih
    omega
   | some b =>
    dsimp only
    have hbm : b ∈ candsF l at' (out.length : Int) := by
     rcases bestG_mem h _ _ _ hb with h1 | h1
     ·exact h1
     ·cases h1
    obtain ⟨h1, h2, h3⟩ := ord_put hok hbm
    have ih := orderG_len l h f _ _ _ h1
    unfold muO at ih ⊢
    simp only [List.length_append, List.length_singleton] at ih
    split at ih <;> split <;> omega
theorem orderF_spec (l : List In) (h : l ≠ []) : ∃ o b, orderF l = o ++ [((b : Nat) : Int)] ∧ b < l.length := by
 have hl : 0 < l.length := List.length_pos_iff.2 h
 refine orderG_last l _ _ _ _ _ (ord_start l) hl ?_
 unfold muO; split <;> omega
theorem orderF_mem (l : List In) : ∀ x ∈ orderF l, x = -1 ∨ (0 ≤ x ∧ x < l.length) := orderG_mem l _ _ _ _ _ (fun x hx => by cases hx)
theorem orderF_len (l : List In) : (orderF l).length ≤ 2 * l.length + 1 := by
 have h := orderG_len l (htsF l) (2 * l.length + 1) _ _ _ (ord_start l)
 unfold orderF
 unfold muO at h
 simp only [List.length_nil] at h
 split at h <;> omega
end Go.Proofs.YtkolmklfgbimoaaGreatDoor
namespace Go.Proofs.YtkolmklfgbimoaaGreatDoor
open Go Go.Sx Go.Sx.Chunk
set_option maxRecDepth 100000
theorem maxF_le (a : In) (B : Int) : ∀ (l : List In) (hs : List Int) (m : Int), 0 ≤ m → m ≤ B → (∀ v ∈ hs, 0 ≤ v ∧ v + 2 ≤ B) → 0 ≤ maxF a l hs m ∧ maxF a l hs m ≤ B
 | [], hs, m, h0, h1, _ => by unfold maxF; exact ⟨h0, h1⟩
 | b :: l, [], m, h0, h1, _ => by unfold maxF; exact ⟨h0, h1⟩
 | b :: l, v :: hs, m, h0, h1, h2 => by
  have hv := h2 v (by simp)
  have hf := farF_le a b
  rw [maxF]
  refine maxF_le a B l hs _ ?_ ?_ (fun u hu => h2 u (by simp [hu]))
  ·split <;> omega
  ·split <;> omega
theorem hts_le : ∀ (l : List In), ∀ v ∈ htsF l, 0 ≤ v ∧ v ≤ 2 * (l.length : Int)
 | [], v, hv => by cases hv
 | a :: l, v, hv => by
  have ih := hts_le l
  rw [htsF] at hv
  rw [List.length_cons]
  rcases List.mem_cons.1 hv with rfl | hv
  ·have := maxF_le a (2 * (l.length : Int) + 2) l (htsF l) 0 (Int.le_refl _) (by omega) (fun u hu => by have := ih u hu; omega)
   omega
  ·have := ih v hv; omega
theorem drop_at {α : Type} {l : List α} {j : Nat} {b : α} (h : l[j]? = some b) : l.drop j = b :: l.drop (j + 1) := by
 obtain ⟨hj, he⟩ := List.getElem?_eq_some_iff.1 h
 rw [List.drop_eq_getElem_cons hj, he]
set_option maxHeartbeats 4000000 in
theorem heightsC (a : Option Addr) (c : Nat) (l : List In) (hl : l.length ≤ 4096) : FnC Tryz.prog 190 [.slice a l.length c] [] [rng a (insC l)] (fun z : Option Addr × Nat => .slice z.1 l.length z.2) (fun z => [row z.1 z.2 3 1 l.length (i64C (htsF l))]) (fun _ => True) := by
 have hcl := insC_len l
 refine fn_intro Tryz.func190 Tryz.ntmps190 rfl rfl rfl (fun w0 => ?_)
 try simp only [Sx.ap1, Sx.ap2, Sx.ap3]
 refine rr ?_
 intro b1 _
 refine rr ?_
 rw [i64C_rep]
 refine lo [0, 3] (fun k : Nat => [(4, .int .i64 ((k : Int) - 1))]) (fun k => [(0, row (some ⟨b1, 0, none⟩) l.length 3 1 l.length (i64C (List.replicate k 0 ++ htsF (l.drop k))))]) (fun k => k ≤ l.length) (fun k => k) l.length (Nat.le_refl _) ?_ (hH := by rw [List.drop_length]; simp [htsF])
 intro k hk K1 hK1
 dsimp only at hk ⊢
 by_cases h0 : k = 0
 ·subst h0
  rw [List.drop_zero, List.replicate_zero, List.nil_append]
  refine rr ?_
  exact en (some ⟨b1, 0, none⟩, l.length) trivial
 obtain ⟨i, rfl⟩ : ∃ i, k = i + 1 := ⟨k - 1, by omega⟩
 obtain ⟨e, he⟩ := some_at (l := l) (k := i) (by omega)
 have hHl : (htsF (l.drop (i + 1))).length = l.length - (i + 1) := by rw [htsF_len, List.length_drop]
 have hHb := hts_le (l.drop (i + 1))
 have hsp : htsF (l.drop i) = maxF e (l.drop (i + 1)) (htsF (l.drop (i + 1))) 0 :: htsF (l.drop (i + 1)) := by rw [drop_at he, htsF]
 have hdl : ((l.drop (i + 1)).length : Int) ≤ 4096 := by rw [List.length_drop]; omega
 generalize hH : htsF (l.drop (i + 1)) = hs at *
 rw [show ((i + 1 : Nat) : Int) - 1 = (i : Int) by omega]
 refine rr ?_
 refine lo [0, 3, 4] (fun x : Nat × Int => [(5, .int .i64 (x.1 : Int))]) (fun x => [(0, row (some ⟨b1, 0, none⟩) l.length 3 1 l.length (i64C (List.replicate i 0 ++ x.2 :: hs)))]) (fun x => i + 1 ≤ x.1 ∧ x.1 ≤ l.length ∧ 0 ≤ x.2 ∧ x.2 ≤ 10000 ∧ maxF e (l.drop x.1) (hs.drop (x.1 - (i + 1))) x.2 = maxF e (l.drop (i + 1)) hs 0) (fun x => l.length - x.1) (i + 1, 0) ⟨Nat.le_refl _, hk, Int.le_refl _, by dsimp only; omega, by rw [Nat.sub_self, List.drop_zero]⟩ ?_ (hH := by rw [List.replicate_succ', List.append_assoc]; rfl)
 rintro ⟨j, m⟩ ⟨hj1, hj2, hm0, hm1, hmx⟩ K2 hK2
 dsimp only at hj1 hj2 hm0 hm1 hmx ⊢
 have hil : (i64C (List.replicate i 0 ++ m :: hs)).length = l.length := by rw [i64C_len]; simp; omega
 by_cases hlt : j < l.length
 ·obtain ⟨b, hb⟩ := some_at hlt
  obtain ⟨v, hv⟩ := some_at (l := hs) (k := j - (i + 1)) (by omega)
  have hvb := hHb v (List.mem_of_getElem? hv)
  have hfb := farF_le e b
  have hst : maxF e (l.drop (j + 1)) (hs.drop (j + 1 - (i + 1))) (if 0 < farF e b then max m (farF e b + v) else m) = maxF e (l.drop (i + 1)) hs 0 := by
   rw [← hmx, drop_at hb, drop_at hv, show j - (i + 1) + 1 = j + 1 - (i + 1) by omega, maxF]
  have hgi : (i64C (List.replicate i 0 ++ m :: hs))[0 + (i : Int).toNat * 1]? = some (.int .i64 m) := by
   rw [show 0 + (i : Int).toNat * 1 = i by omega]
   refine i64C_get ?_
   rw [List.getElem?_append_right (by simp), List.length_replicate, Nat.sub_self]; rfl
  have hgj : (i64C (List.replicate i 0 ++ m :: hs))[0 + (j : Int).toNat * 1]? = some (.int .i64 v) := by
   rw [show 0 + (j : Int).toNat * 1 = j by omega]
   refine i64C_get ?_
   rw [List.getElem?_append_right (by simp; omega), List.length_replicate, show j - i = (j - (i + 1)) + 1 by omega, List.getElem?_cons_succ]; exact hv
  have hse : ∀ u : Int, (i64C (List.replicate i 0 ++ m :: hs)).set (0 + (i : Int).toNat * 1) (.int .i64 u) = i64C (List.replicate i 0 ++ u :: hs) := fun u => by
   rw [show 0 + (i : Int).toNat * 1 = i by omega, i64C_set, List.set_append_right _ _ (by simp), List.length_replicate, Nat.sub_self]; rfl
  have heA : ((insC l).drop ((i : Int).toNat * 5)).take 5 = [.int .i64 e.op, .int .i64 e.a, .int .i64 e.b, .int .i64 e.c, .int .i64 e.imm] := insC_all he _ (by omega)
  have heL := insC_len l
  have hbA : ((insC l).drop ((j : Int).toNat * 5)).take 5 = [.int .i64 b.op, .int .i64 b.a, .int .i64 b.b, .int .i64 b.c, .int .i64 b.imm] := insC_all hb _ (by omega)
  have hbL := insC_len l
  refine w_use (fun w hw => (hw.pick 1 rfl).rng_some (by omega)) ?_
  rintro ⟨g1, rfl⟩
  refine rr ?_
  refine dr [0, 1, 2, 3, 4, 5, 6, 7, 8, 9] [3, 7] [1] ?_
  refine rr ?_
  refine cle (farC e b) ?_
  intro _ _
  try simp only [Sx.ap1, Sx.ap2, Sx.ap3]
  by_cases hf : 0 < farF e b
  ·rw [if_pos hf] at hst
   refine rr ?_
   refine dr [0, 1, 2, 3, 4, 5, 6, 7, 8, 9, 10, 11, 12, 13, 14] [5, 10] [0] ?_
   refine rr ?_
   intro _ _
   refine rr ?_
   rw [hse]
   exact ro hK2 (j + 1, max m (farF e b + v)) ⟨by omega, hlt, by omega, by omega, hst⟩
  ·rw [if_neg hf] at hst
   refine rr ?_
   exact ro hK2 (j + 1, m) ⟨by omega, hlt, hm0, hm1, hst⟩
 ·obtain rfl : j = l.length := by omega
  rw [List.drop_length] at hmx
  have hm2 : ∀ X, maxF e [] X m = m := fun X => by unfold maxF; rfl
  rw [hm2] at hmx
  refine rr ?_
  rw [show List.replicate i 0 ++ m :: hs = List.replicate i 0 ++ htsF (l.drop i) by rw [hsp, ← hmx]]
  exact ro hK1 i (by omega)
end Go.Proofs.YtkolmklfgbimoaaGreatDoor
namespace Go.Proofs.YtkolmklfgbimoaaGreatDoor
open Go Go.Sx Go.Sx.Chunk
set_option maxRecDepth 100000
theorem all_range_succ (f : Nat → Bool) (i : Nat) : (List.range (i + 1)).all f = ((List.range i).all f && f i) := by
 rw [List.range_succ, List.all_append]; simp
theorem all_range_stop (f : Nat → Bool) {i j : Nat} (h : i < j) (hf : f i = false) : (List.range j).all f = false := by
 rw [List.all_eq_false]
 exact ⟨i, List.mem_range.2 h, by rw [hf]; simp⟩
set_option maxHeartbeats 4000000 in
theorem readySC (la : Option Addr) (lc : Nat) (l : List In) (aa : Option Addr) (ac : Nat) (ats : List Int) (j : Nat) (p : Int) (hl : l.length ≤ 4096) (hal : ats.length = l.length) (hj : j < l.length) (hb : ∀ v ∈ ats, -1 ≤ v ∧ v ≤ 100000) (hp : 0 ≤ p ∧ p ≤ 100000) : FnC (α := Unit) Tryz.prog 192 [.slice la l.length lc, .slice aa ats.length ac, .int .i64 (j : Int), .int .i64 p] [] [rng la (insC l), rng aa (i64C ats)] (fun _ => .bool (readyF l ats j p)) (fun _ => []) (fun _ => True) := by
 have hcl := insC_len l
 have hca := i64C_len ats
 obtain ⟨ej, hej⟩ := some_at hj
 obtain ⟨vj, hvj⟩ := some_at (l := ats) (k := j) (by omega)
 have hvb := hb vj (List.mem_of_getElem? hvj)
 have hgj : (i64C ats)[(j : Int).toNat * 1]? = some (.int .i64 vj) := by rw [show (j : Int).toNat * 1 = j by omega]; exact i64C_get hvj
 have dj : ats.getD j 0 = vj := by simp [List.getD, hvj]
 have lj : l.getD j nopI = ej := by simp [List.getD, hej]
 have hejA : ((insC l).drop ((j : Int).toNat * 5)).take 5 = [.int .i64 ej.op, .int .i64 ej.a, .int .i64 ej.b, .int .i64 ej.c, .int .i64 ej.imm] := insC_all hej _ (by omega)
 have hejL := insC_len l
 unfold readyF
 rw [dj]
 refine fn_intro Tryz.func192 Tryz.ntmps192 rfl rfl rfl (fun w0 => ?_)
 try simp only [Sx.ap1, Sx.ap2, Sx.ap3]
 refine w_use (fun w hw => (hw.pick 0 rfl).rng_some (by omega)) ?_
 rintro ⟨g1, rfl⟩
 refine w_use (fun w hw => (hw.pick 1 rfl).rng_some (by omega)) ?_
 rintro ⟨g2, rfl⟩
 by_cases hv0 : vj < 0
 ·rw [decide_eq_true hv0, Bool.true_and]
  refine rr ?_
  refine lo [0, 1, 2, 3, 16] (fun k : Nat => [(17, .int .i64 (k : Int))]) (fun k => []) (fun k => k ≤ j ∧ (List.range k).all (fun i => !blocksF l ats j i p) = true) (fun k => j - k) 0 ⟨Nat.zero_le _, by simp⟩ ?_
  rintro i ⟨hi, hall⟩ K1 hK1
  try dsimp only at hi hall ⊢
  by_cases hlt : i < j
  ·obtain ⟨ei, hei⟩ := some_at (l := l) (k := i) (by omega)
   obtain ⟨vi, hvi⟩ := some_at (l := ats) (k := i) (by omega)
   have hvib := hb vi (List.mem_of_getElem? hvi)
   have hgi : (i64C ats)[(i : Int).toNat * 1]? = some (.int .i64 vi) := by rw [show (i : Int).toNat * 1 = i by omega]; exact i64C_get hvi
   have hbl : blocksF l ats j i p = (decide (0 < farF ei ej) && (decide (vi < 0) || decide (p < vi + farF ei ej))) := by
    unfold blocksF
    rw [lj, show l.getD i nopI = ei by simp [List.getD, hei], show ats.getD i 0 = vi by simp [List.getD, hvi]]
   have hfb := farF_le ei ej
   have heiA : ((insC l).drop ((i : Int).toNat * 5)).take 5 = [.int .i64 ei.op, .int .i64 ei.a, .int .i64 ei.b, .int .i64 ei.c, .int .i64 ei.imm] := insC_all hei _ (by omega)
   have heiL := insC_len l
   refine rr ?_
   refine dr [0, 1, 2, 3, 4, 5, 6, 7, 8, 9] [3, 7] [0] ?_
   refine rr ?_
   refine cle (farC ei ej) ?_
   intro _ _
   try simp only [Sx.ap1, Sx.ap2, Sx.ap3]
   generalize farF ei ej = f at *
   by_cases hf : 0 < f
   ·rw [decide_eq_true hf, Bool.true_and] at hbl
    by_cases hvi0 : vi < 0
    ·rw [decide_eq_true hvi0, Bool.true_or] at hbl
     refine rr ?_
     refine en () trivial (hv := ?_)
     rw [all_range_stop _ hlt (by rw [hbl]; rfl)]; rfl
    ·rw [decide_eq_false hvi0, Bool.false_or] at hbl
     by_cases hpl : p < vi + f
     ·rw [decide_eq_true hpl] at hbl
      refine rr ?_
      refine en () trivial (hv := ?_)
      rw [all_range_stop _ hlt (by rw [hbl]; rfl)]; rfl
     ·rw [decide_eq_false hpl] at hbl
      refine rr ?_
      exact ro hK1 (i + 1) ⟨hlt, by rw [all_range_succ, hall, hbl]; rfl⟩
   ·rw [decide_eq_false hf, Bool.false_and] at hbl
    refine rr ?_
    exact ro hK1 (i + 1) ⟨hlt, by rw [all_range_succ, hall, hbl]; rfl⟩
  ·obtain rfl : i = j := by omega
   refine rr ?_
   refine en () trivial (hv := ?_)
   rw [hall]; rfl
 ·rw [decide_eq_false hv0, Bool.false_and]
  refine rr ?_
  exact en () trivial
end Go.Proofs.YtkolmklfgbimoaaGreatDoor
namespace Go.Proofs.YtkolmklfgbimoaaGreatDoor
open Go Go.Sx Go.Sx.Chunk
set_option maxRecDepth 100000
theorem lessC (x : Nat) (ha : Option Addr) (hc : Nat) (hs : List Int) (v u : Nat) (hv : v < hs.length) (hu : u < hs.length) : FnC (α := Unit) Tryz.prog 194 [.int .i64 (v : Int), .int .i64 (u : Int), .pointer (some ⟨x, 0, none⟩)] [blk x [.slice ha hs.length hc] 41, row ha hc 3 1 hs.length (i64C hs)] [] (fun _ => .bool (decide (hs.getD u 0 < hs.getD v 0))) (fun _ => [blk x [.slice ha hs.length hc] 41, row ha hc 3 1 hs.length (i64C hs)]) (fun _ => True) := by
 have hil := i64C_len hs
 obtain ⟨ev, hev⟩ := some_at hv
 obtain ⟨eu, heu⟩ := some_at hu
 rw [show hs.getD u 0 = eu by simp [List.getD, heu], show hs.getD v 0 = ev by simp [List.getD, hev]]
 have hgv : (i64C hs)[0 + (v : Int).toNat * 1]? = some (.int .i64 ev) := by rw [show 0 + (v : Int).toNat * 1 = v by omega]; exact i64C_get hev
 have hgu : (i64C hs)[0 + (u : Int).toNat * 1]? = some (.int .i64 eu) := by rw [show 0 + (u : Int).toNat * 1 = u by omega]; exact i64C_get heu
 refine fn_intro Tryz.func194 Tryz.ntmps194 rfl rfl rfl (fun w0 => ?_)
 try simp only [Sx.ap1, Sx.ap2, Sx.ap3]
 refine w_use (fun w hw => (hw.pick 1 rfl).row_some (by omega)) ?_
 rintro ⟨g1, rfl⟩
 refine rr ?_
 refine dr [0, 1, 2, 3, 4, 5, 6, 7, 8, 9] [0, 3, 4, 7] [0, 1] ?_
 refine rr ?_
 refine rr ?_
 exact en () trivial
def lessV (x : Nat) : Value := .func (.func 194) #[] #[.pointer (some ⟨x, 0, none⟩)]
def bestH (b3 b6 b7 x : Nat) (ha : Option Addr) (hc : Nat) (hs : List Int) (q : Option Nat) : List Chunk := [blk b6 [.int .i64 ((q.getD 0 : Nat) : Int)] 3, blk b7 [.bool q.isSome] 4, blk b3 [lessV x] 173, blk x [.slice ha hs.length hc] 41, row ha hc 3 1 hs.length (i64C hs)]
theorem bestG_snoc (h : List Int) : ∀ (l : List Nat) (b : Option Nat) (v : Nat), bestG h b (l ++ [v]) = (match bestG h b l with
  | none => some v
  | some u => some (if h.getD u 0 < h.getD v 0 then v else u))
 | [], none, v => rfl
 | [], some u, v => rfl
 | a :: l, none, v => by rw [List.cons_append, bestG, bestG_snoc h l]; rfl
 | a :: l, some u, v => by rw [List.cons_append, bestG, bestG_snoc h l]; rfl
theorem bestG_lt (h : List Int) (n : Nat) : ∀ (l : List Nat) (b : Option Nat), (∀ v ∈ l, v < n) → (∀ u, b = some u → u < n) → ∀ u, bestG h b l = some u → u < n
 | [], b, _, hb, u, hu => hb u hu
 | v :: l, none, hl, _, u, hu => bestG_lt h n l _ (fun w hw => hl w (by simp [hw])) (fun w hw => by cases hw; exact hl v (by simp)) u hu
 | v :: l, some a, hl, hb, u, hu => bestG_lt h n l _ (fun w hw => hl w (by simp [hw])) (fun w hw => by
   split at hw <;> cases hw
   ·exact hl v (by simp)
   ·exact hb _ rfl) u hu
set_option maxRecDepth 100000 in
set_option maxHeartbeats 4000000 in
theorem leastC (s b : Nat) (m : Option Nat) (oa : Option Addr) (oc : Nat) (cs : List Nat) (x : Nat) (ha : Option Addr) (hc : Nat) (hs : List Int) (hl : cs.length ≤ 1000000) (hcs : ∀ v ∈ cs, v < hs.length) :
  FnC (α := Unit) Tryz.prog 193 [.func (.func 226) #[] #[.pointer (some ⟨s, 0, none⟩)], lessV x]
   (boxS s b :: setI b m oa oc (cs.map fun n : Nat => (n : Int)) ++ [blk x [.slice ha hs.length hc] 41, row ha hc 3 1 hs.length (i64C hs)]) []
   (fun _ => .tuple #[.int .i64 (((bestF hs cs).getD 0 : Nat) : Int), .bool (bestF hs cs).isSome])
   (fun _ => boxS s b :: setI b m oa oc (cs.map fun n : Nat => (n : Int)) ++ [blk x [.slice ha hs.length hc] 41, row ha hc 3 1 hs.length (i64C hs)]) (fun _ => True) := by
 have hi := @allIC
 unfold bestF
 unfold boxS setI at *
 refine fn_introM Tryz.func193 Tryz.ntmps193 rfl rfl rfl (fun w0 => ?_)
 try simp only [Sx.ap1, Sx.ap2, Sx.ap3]
 refine rr ?_
 intro b3 _
 refine rr ?_
 intro b6 _
 refine rr ?_
 intro b7 _
 refine rr ?_
 refine hv ([boxS s b] ++ setI b m oa oc (cs.map fun n : Nat => (n : Int)) ++ bestH b3 b6 b7 x ha hc hs none) ?_ (hp := by unfold boxS setI bestH lessV; (repeat (first | exact Has.nil | (apply Has.cons; focus ((repeat (first | exact pick_here | apply pick_there)); done)) | apply Has.nrow | apply Has.gen0)))
 refine w_rangeFunc (σ := Option Nat) (τ := Empty) (A := [boxS s b] ++ setI b m oa oc (cs.map fun n : Nat => (n : Int)) ++ bestH b3 b6 b7 x ha hc hs none) [0, 0, 0, 0, 0, 0, 0, 0, 0]
  (fun q => [boxS s b] ++ setI b m oa oc (cs.map fun n : Nat => (n : Int)) ++ bestH b3 b6 b7 x ha hc hs q) (fun e => e.elim) (fun q => q = bestG hs none ((cs.map fun n : Nat => (n : Int)).map Int.toNat)) (fun e => False) (fun e => e.elim) ?_ rfl rfl rfl (fun q => by unfold boxS setI bestH; cases m <;> rfl) (fun e => e.elim) ?_ (fun D e => e.elim)
 ·intro ly D fn tmps hE
  have hz := fun (ag bd : Code) => hi (σ := Option Nat) (τ := Empty) ly s b m oa oc (cs.map fun n : Nat => (n : Int)) (by simp; omega) (fun q => recC ly (recL fn tmps #[10] ag bd D) :: bestH b3 b6 b7 x ha hc hs q) (fun e => e.elim) (fun pre q => q = bestG hs none (pre.map Int.toNat)) (fun e => False) none
  refine (hz _ _ ?_ (fun _ => rfl) (fun e => e.elim) rfl).perm [1, 1, 1, 1, 0, 0, 0, 0, 0, 0] rfl ?_ ?_
  ·intro pre e rest q hsplit hq
   obtain ⟨v, hv, rfl⟩ : ∃ v ∈ cs, (v : Int) = e := by
    have : e ∈ cs.map fun n : Nat => (n : Int) := by rw [hsplit]; simp
    obtain ⟨v, hv, he⟩ := List.mem_map.1 this
    exact ⟨v, hv, he⟩
   have hvl := hcs v hv
   have hpl : ∀ w ∈ pre.map Int.toNat, w < hs.length := fun w hw => by
    obtain ⟨z, hz1, rfl⟩ := List.mem_map.1 hw
    have : z ∈ cs.map fun n : Nat => (n : Int) := by rw [hsplit]; simp [hz1]
    obtain ⟨v2, hv2, he2⟩ := List.mem_map.1 this
    have := hcs v2 hv2
    omega
   have hul := bestG_lt hs hs.length (pre.map Int.toNat) none hpl (fun u hu => by cases hu)
   have hsn := bestG_snoc hs (pre.map Int.toNat) none v
   rw [show (v : Nat) = ((v : Int)).toNat by simp, ← List.map_singleton (f := Int.toNat), ← List.map_append] at hsn
   rw [← hq] at hul hsn
   refine yd_go (ps := [10]) (E0 := [(3, .pointer (some ⟨b3, 0, none⟩)), (6, .pointer (some ⟨b6, 0, none⟩)), (7, .pointer (some ⟨b7, 0, none⟩))]) hE ⟨rfl, rfl, rfl, trivial⟩ rfl rfl (fun w0 => ?_)
   simp only [List.zip_cons_cons, List.zip_nil_right, envPut]
   unfold bestH lessV
   refine rr ?_
   refine w_begin rfl rfl ?_
   cases q with
   | none =>
    dsimp only [Option.isSome_none] at hsn ⊢
    refine rr ?_
    exact w_rgo (Sum.inl (some v)) [0, 1, 0, 0, 0, 0] (i := 2) rfl rfl rfl hsn.symm
   | some u =>
    have hus := hul u rfl
    have hle := lessC x ha hc hs v u hvl hus
    have hsn2 : bestG hs none (List.map Int.toNat (pre ++ [(v : Int)])) = some (if hs.getD u 0 < hs.getD v 0 then v else u) := hsn
    dsimp only [Option.isSome_some, Option.getD_some]
    refine rr ?_
    refine clv (hle) ?_
    intro _ _
    try simp only [Sx.ap1, Sx.ap2, Sx.ap3]
    by_cases hlt : hs.getD u 0 < hs.getD v 0
    ·rw [if_pos hlt] at hsn2
     rw [decide_eq_true hlt]
     refine rr ?_
     exact w_rgo (Sum.inl (some v)) [0, 1, 0, 2, 0, 0] (i := 4) rfl rfl rfl hsn2.symm
    ·rw [if_neg hlt] at hsn2
     rw [decide_eq_false hlt]
     refine rr ?_
     exact w_rgo (Sum.inl (some u)) [0, 2, 2, 2, 0, 0] (i := 2) rfl rfl rfl hsn2.symm
  ·intro z; cases z with | inl z => (cases m <;> rfl) | inr e => exact e.elim
  ·intro z; cases z with | inl z => exact ⟨[4, 0, 0, 0, 0, 0, 0, 0, 0, 0], [], rfl⟩ | inr e => exact e.elim
 ·intro D q hq
  unfold bestH boxS setI
  rw [show ((cs.map fun n : Nat => (n : Int)).map Int.toNat) = cs by rw [List.map_map]; simp [Function.comp_def]] at hq
  subst hq
  refine rr ?_
  refine dr [0, 1, 2, 3] [0, 1] [4, 5] ?_
  refine rr ?_
  exact weM1 () [0, 0, 0, 0, 3, 3] trivial
end Go.Proofs.YtkolmklfgbimoaaGreatDoor
namespace Go.Proofs.YtkolmklfgbimoaaGreatDoor
open Go Go.Sx Go.Sx.Chunk
set_option maxRecDepth 100000
theorem mul1C (n : Nat) (h : n ≤ 1000000000) : FnC (α := Unit) Tryz.prog 229 [.int .u64 1, .int .u64 (n : Int)] [] [] (fun _ => .tuple #[.int .u64 0, .int .u64 (n : Int)]) (fun _ => []) (fun _ => True) :=
 fnc_same ⟨_, _, Tryz.func229, rfl, by kernel_rfl⟩ fun w hw => by
  have h1 := _root_.Go.Proofs.Tryz.bits_Mul 1 n (by omega) (by omega) w
  rw [show 1 * n / 18446744073709551616 = 0 by omega, show 1 * n % 18446744073709551616 = n by omega] at h1
  exact h1
def filL (v : Int) (k n : Nat) : List Int := List.replicate k v ++ List.replicate (n - k) 0
theorem filL_len (v : Int) {k n : Nat} (h : k ≤ n) : (filL v k n).length = n := by unfold filL; simp; omega
theorem filL_copy (v : Int) {k n : Nat} (h : k ≤ n) : (i64C (filL v k n)).take k ++ (i64C (filL v k n)).take (min k (n - k)) ++ (i64C (filL v k n)).drop (k + min k (n - k)) = i64C (filL v (k + min k (n - k)) n) := by
 have hm : min k (n - k) ≤ k ∧ min k (n - k) ≤ n - k := ⟨Nat.min_le_left _ _, Nat.min_le_right _ _⟩
 generalize min k (n - k) = r at *
 have h1 : ∀ j, j ≤ k → (filL v k n).take j = List.replicate j v := fun j hj => by
  unfold filL
  rw [List.take_append_of_le_length (by simpa using hj), List.take_replicate, Nat.min_eq_left hj]
 have h2 : (filL v k n).drop (k + r) = List.replicate (n - (k + r)) 0 := by
  unfold filL
  rw [List.drop_append, List.length_replicate, List.drop_replicate, List.drop_replicate, show k - (k + r) = 0 by omega, show n - k - (k + r - k) = n - (k + r) by omega]
  rfl
 unfold i64C
 rw [← List.map_take, ← List.map_take, ← List.map_drop, h1 k (Nat.le_refl _), h1 r hm.1, h2, ← List.map_append, ← List.map_append]
 unfold filL
 rw [List.replicate_append_replicate]
set_option maxHeartbeats 4000000 in
theorem repeatC (a : Addr) (c n : Nat) (v : Int) (hn : n ≤ 100000) : FnC Tryz.prog 191 [.slice (some a) 1 c, .int .i64 (n : Int)] [] [rng (some a) [.int .i64 v]] (fun z : Option Addr × Nat => .slice z.1 n z.2) (fun z => [row z.1 z.2 3 1 n (i64C (List.replicate n v))]) (fun _ => True) := by
 have hm := mul1C n (by omega)
 refine fn_intro Tryz.func191 Tryz.ntmps191 rfl rfl rfl (fun w0 => ?_)
 try simp only [Sx.ap1, Sx.ap2, Sx.ap3]
 refine rr ?_
 refine cl (hm) ?_
 intro _ _
 try simp only [Sx.ap1, Sx.ap2, Sx.ap3]
 refine rr ?_
 intro b1 _
 refine rr ?_
 refine w_eff (eff_copyG (i := 0) (i2 := 1) T rfl rfl rfl rfl rfl rfl rfl (fun u hu => by rw [List.mem_singleton.1 hu]; rfl) (by omega) (Nat.le_refl _) rfl) (fun _ _ => ?_)
 have hc0 : List.take 0 (List.replicate n (Value.int .i64 0)) ++ List.take (min 1 n) [Value.int .i64 v] ++ List.drop (0 + min 1 n) (List.replicate n (Value.int .i64 0)) = i64C (filL v (min 1 n) n) := by
  have hm : min 1 n ≤ 1 := Nat.min_le_left _ _
  generalize min 1 n = r at *
  unfold filL i64C
  rw [List.take_zero, List.nil_append, List.drop_replicate, Nat.zero_add, List.map_append, List.map_replicate, List.map_replicate]
  congr 1
  match r, hm with
  | 0, _ => rfl
  | 1, _ => rfl
 rw [hc0]
 have hmn : min 1 n ≤ n := Nat.min_le_right _ _
 have hm0 : n = 0 ∨ 1 ≤ min 1 n := by omega
 generalize min 1 n = r at *
 refine rr ?_
 refine lo [7] (fun k : Nat => [(8, .int .i64 (k : Int))]) (fun k => [(0, row (some ⟨b1, 0, none⟩) n 3 1 n (i64C (filL v k n)))]) (fun k => k ≤ n ∧ (n = 0 ∨ 1 ≤ k)) (fun k => n - k) r ⟨hmn, hm0⟩ ?_
 rintro k ⟨hk, hk0⟩ K1 hK1
 dsimp only at hk hk0 ⊢
 by_cases hlt : k < n
 ·have hsl : sliceV (some ⟨b1, 0, none⟩) n 1 (((some (k : Int)).getD 0).toNat) (((none : Option Int).getD (n : Int)).toNat) = .slice (some ⟨b1, k, none⟩) (n - k) (n - k) := by
   unfold sliceV
   simp only [Option.getD_some, Option.getD_none, Int.toNat_natCast, Nat.mul_one]
   first | rfl | (rw [if_neg (by omega)]; simp [Addr.add]; omega) | simp [Addr.add]
  refine rr ?_
  refine dx [0, 1, 2, 3, 4, 5, 6, 7, 8, 9] [] [] ?_
  refine rr ?_
  refine wa_effd rfl (by kernel_rfl) rfl (eff_copyS (i := 0) (us := 0) (k2 := k) (o2 := 0) T (congrArg some hsl) rfl rfl rfl rfl rfl (fun u hu => by
   obtain ⟨z, _, rfl⟩ := List.mem_map.1 hu; rfl) (by omega) (by omega) rfl) (by kernel_rfl) (by kernel_rfl) (fun _ _ => ?_)
  rw [List.drop_zero, filL_copy v hk]
  have hr2 : min k (n - k) ≤ n - k := Nat.min_le_right _ _
  have hr3 : 1 ≤ min k (n - k) := by omega
  generalize min k (n - k) = r2 at *
  refine rr ?_
  exact ro hK1 (k + r2) ⟨by omega, .inr (by omega)⟩
 ·obtain rfl : k = n := by omega
  have hf : filL v k k = List.replicate k v := by unfold filL; simp
  rw [hf]
  refine rr ?_
  exact en (some ⟨b1, 0, none⟩, k) trivial
end Go.Proofs.YtkolmklfgbimoaaGreatDoor
namespace Go.Proofs.YtkolmklfgbimoaaGreatDoor
open Go Go.Sx Go.Sx.Chunk
set_option maxRecDepth 100000
def candG (l : List In) (ats : List Int) (p : Int) (j : Nat) : List Nat := (List.range j).filter fun j => readyF l ats j p
theorem candG_succ (l : List In) (ats : List Int) (p : Int) (j : Nat) : candG l ats p (j + 1) = if readyF l ats j p then candG l ats p j ++ [j] else candG l ats p j := by
 unfold candG
 rw [List.range_succ, List.filter_append]
 cases h : readyF l ats j p <;> simp [h]
theorem candG_lt (l : List In) (ats : List Int) (p : Int) (j : Nat) : ∀ v ∈ candG l ats p j, v < j := fun v hv => List.mem_range.1 (List.mem_filter.1 hv).1
theorem candG_len (l : List In) (ats : List Int) (p : Int) (j : Nat) : (candG l ats p j).length ≤ j := Nat.le_trans (List.length_filter_le _ _) (by simp)
theorem candG_new (l : List In) (ats : List Int) (p : Int) (j : Nat) : inI (j : Int) ((candG l ats p j).map fun n : Nat => (n : Int)) = false := by
 unfold inI
 rw [List.any_eq_false]
 intro z hz
 obtain ⟨v, hv, rfl⟩ := List.mem_map.1 hz
 have := candG_lt l ats p j v hv
 simp; omega
structure OrdL (l : List In) (x : List Int × List Int × Nat) : Prop where
 ok : OrdOk l x.1 x.2.1 x.2.2
 low : ∀ v ∈ x.1, -1 ≤ v
 run : ∃ f, muO l x.1 x.2.1 x.2.2 ≤ f ∧ orderG l (htsF l) f x.1 x.2.1 x.2.2 = orderF l
 room : x.2.1.length + muO l x.1 x.2.1 x.2.2 ≤ 2 * l.length + 1
theorem OrdL.start (l : List In) : OrdL l (List.replicate l.length (-1), [], l.length) := by
 have hm : muO l (List.replicate l.length (-1)) [] l.length ≤ 2 * l.length + 1 := by unfold muO; split <;> omega
 exact ⟨ord_start l, fun v hv => by rw [(List.mem_replicate.1 hv).2]; exact Int.le_refl _, ⟨_, hm, rfl⟩, by simpa using hm⟩
theorem OrdL.done {l : List In} {ats out : List Int} (h : OrdL l (ats, out, 0)) : out = orderF l := by
 obtain ⟨f, _, hf⟩ := h.run
 rw [← hf]; exact (orderG_zero l _ f ats out).symm
theorem OrdL.stall {l : List In} {ats out : List Int} {left : Nat} (h : OrdL l (ats, out, left)) (hl : 0 < left) (hb : bestF (htsF l) (candsF l ats (out.length : Int)) = none) : OrdL l (ats, out ++ [-1], left) ∧ muO l ats (out ++ [-1]) left < muO l ats out left := by
 obtain ⟨h1, h2, ⟨f, hf, hr⟩, h4⟩ := h
 dsimp only at h1 h2 hf hr h4
 obtain ⟨g1, g2⟩ := ord_stall h1 hl
 have hmu : muO l ats (out ++ [-1]) left + 1 = muO l ats out left := by
  unfold muO; rw [if_neg g2, if_pos (bestF_none.1 hb)]
 refine ⟨⟨g1, h2, ?_, by dsimp only; rw [List.length_append, List.length_singleton]; omega⟩, by omega⟩
 obtain ⟨g, rfl⟩ : ∃ g, f = g + 1 := ⟨f - 1, by omega⟩
 rw [orderG, if_neg (by omega), hb] at hr
 exact ⟨g, by dsimp only; omega, hr⟩
theorem OrdL.put {l : List In} {ats out : List Int} {left b : Nat} (h : OrdL l (ats, out, left)) (hb : bestF (htsF l) (candsF l ats (out.length : Int)) = some b) : OrdL l (ats.set b (out.length : Int), out ++ [(b : Int)], left - 1) ∧ muO l (ats.set b (out.length : Int)) (out ++ [(b : Int)]) (left - 1) < muO l ats out left ∧ 0 < left ∧ b < l.length := by
 obtain ⟨h1, h2, ⟨f, hf, hr⟩, h4⟩ := h
 dsimp only at h1 h2 hf hr h4
 have hbm : b ∈ candsF l ats (out.length : Int) := by
  rcases bestG_mem _ _ _ _ hb with h1 | h1
  ·exact h1
  ·cases h1
 obtain ⟨g1, g2, g3⟩ := ord_put h1 hbm
 have hmu : muO l (ats.set b (out.length : Int)) (out ++ [(b : Int)]) (left - 1) + 1 ≤ muO l ats out left := by
  unfold muO; split <;> split <;> omega
 refine ⟨⟨g1, fun v hv => ?_, ?_, by dsimp only; rw [List.length_append, List.length_singleton]; omega⟩, by omega, g2, g3⟩
 ·rcases List.mem_or_eq_of_mem_set hv with hv | rfl
  ·exact h2 v hv
  ·omega
 ·obtain ⟨g, rfl⟩ : ∃ g, f = g + 1 := ⟨f - 1, by unfold muO at hf; omega⟩
  rw [orderG, if_neg (by omega), hb] at hr
  exact ⟨g, by dsimp only; omega, hr⟩
set_option maxRecDepth 100000 in
set_option maxHeartbeats 8000000 in
theorem orderC (la : Option Addr) (lc : Nat) (l : List In) (hl : l.length ≤ 4096) : FnC Tryz.prog 137 [.slice la l.length lc] [] [rng la (insC l)] (fun z : Option Addr × Nat => .slice z.1 (orderF l).length z.2) (fun z => [row z.1 z.2 3 1 (orderF l).length (i64C (orderF l))]) (fun _ => True) := by
 have h1 := heightsC la lc l hl
 have h2 := fun b => repeatC ⟨b, 0, none⟩ 1 l.length (-1) (by omega)
 refine fn_intro Tryz.func137 Tryz.ntmps137 rfl rfl rfl (fun w0 => ?_)
 try simp only [Sx.ap1, Sx.ap2, Sx.ap3]
 refine rr ?_
 refine cl (h1) ?_
 intro ⟨ha, hc⟩ _
 try simp only [Sx.ap1, Sx.ap2, Sx.ap3]
 refine rr ?_
 intro b3 _
 refine rr ?_
 intro b4 _
 refine rr ?_
 refine cl (h2 b4) ?_
 intro ⟨ra, rc⟩ _
 try simp only [Sx.ap1, Sx.ap2, Sx.ap3]
 refine rr ?_
 have hts := htsF_len l
 refine hv [row ra rc 3 1 l.length (i64C (List.replicate l.length (-1))), row none 0 3 1 ([] : List Int).length (i64C []), blk b3 [.slice ha l.length hc] 41, row ha hc 3 1 l.length (i64C (htsF l)), rng la (insC l)] ?_
 refine lo [0, 3, 4] (fun x : (List Int × List Int × Nat) × Option Addr × Nat => [(5, .slice x.2.1 x.1.2.1.length x.2.2), (6, .int .i64 (x.1.2.2 : Int))]) (fun x => [(0, row ra rc 3 1 l.length (i64C x.1.1)), (1, row x.2.1 x.2.2 3 1 x.1.2.1.length (i64C x.1.2.1))]) (fun x => OrdL l x.1) (fun x => muO l x.1.1 x.1.2.1 x.1.2.2) ((List.replicate l.length (-1), [], l.length), none, 0) (OrdL.start l) ?_
 rintro ⟨⟨ats, out, left⟩, oa, oc⟩ hx K1 hK1
 dsimp only at hx ⊢
 have hal := hx.ok.len
 have hroom := hx.room
 have hlow := hx.low
 have hbel := hx.ok.below
 dsimp only at hal hroom hlow hbel
 by_cases hl0 : left = 0
 ·subst hl0
  have he := hx.done
  rw [he]
  refine rr ?_
  exact en (oa, oc) trivial
 have hatb : ∀ v ∈ ats, -1 ≤ v ∧ v ≤ 100000 := fun v hv => ⟨hlow v hv, by have := hbel v hv; omega⟩
 have hlp : (0 : Int) < (left : Int) := by omega
 have hlm : 2 * left ≤ muO l ats out left := by unfold muO; omega
 have hlb : left ≤ 10000 := by omega
 have hrd := fun j (hj : j < l.length) => readySC la lc l ra rc ats j (out.length : Int) hl hal hj hatb ⟨by omega, by omega⟩
 rw [hal] at hrd
 refine rr ?_
 intro b7 _
 refine rr ?_
 refine hv (setI b7 none none 0 [] ++ [row ra rc 3 1 l.length (i64C ats), row oa oc 3 1 out.length (i64C out), blk b3 [.slice ha l.length hc] 41, row ha hc 3 1 l.length (i64C (htsF l)), rng la (insC l)]) ?_ (hp := by unfold setI mapI; (repeat (first | exact Has.nil | (apply Has.cons; focus ((repeat (first | exact pick_here | apply pick_there)); done)) | apply Has.nrow | apply Has.gen0)))
 unfold setI
 simp only [List.cons_append, List.nil_append]
 refine lo [0, 3, 4, 5, 6, 7, 22] (fun y : Nat × Option Nat × Option Addr × Nat => [(23, .int .i64 (y.1 : Int))]) (fun y => [(0, blk b7 [.map y.2.1, .slice y.2.2.1 ((candG l ats (out.length : Int) y.1).map fun n : Nat => (n : Int)).length y.2.2.2] 231), (1, row y.2.2.1 y.2.2.2 3 1 ((candG l ats (out.length : Int) y.1).map fun n : Nat => (n : Int)).length (i64C ((candG l ats (out.length : Int) y.1).map fun n : Nat => (n : Int)))), (2, mapI y.2.1 ((candG l ats (out.length : Int) y.1).map fun n : Nat => (n : Int)))]) (fun y => y.1 ≤ l.length ∧ setIOk y.2.1 ((candG l ats (out.length : Int) y.1).map fun n : Nat => (n : Int))) (fun y => l.length - y.1) (0, none, none, 0) ⟨Nat.zero_le _, fun _ => rfl⟩ ?_
 rintro ⟨j, m, sa, sc⟩ ⟨hj, hm⟩ K2 hK2
 dsimp only at hj hm ⊢
 by_cases hlt : j < l.length
 ·have hcl := candG_len l ats (out.length : Int) j
  have hnew := candG_new l ats (out.length : Int) j
  have hsucc := candG_succ l ats (out.length : Int) j
  have hadd := setIAddC b7 m sa sc ((candG l ats (out.length : Int) j).map fun n : Nat => (n : Int)) (j : Int) hm (by simp; omega)
  rw [hnew] at hadd
  unfold setI at hadd
  simp only [Bool.not_false, Bool.false_eq_true, if_false] at hadd
  refine rr ?_
  refine cl (hrd j hlt) ?_
  intro _ _
  try simp only [Sx.ap1, Sx.ap2, Sx.ap3]
  cases hr : readyF l ats j (out.length : Int) with
  | true =>
   rw [hr, if_pos rfl] at hsucc
   refine rr ?_
   refine cl (hadd) (ho := fun z => by obtain ⟨m3, _, _⟩ := z; cases m3 <;> rfl) ?_
   intro ⟨m2, sa2, sc2⟩ hm2
   try simp only [Sx.ap1, Sx.ap2, Sx.ap3]
   dsimp only at hm2 ⊢
   rw [show ((candG l ats (out.length : Int) j).map fun n : Nat => (n : Int)) ++ [(j : Int)] = (candG l ats (out.length : Int) (j + 1)).map fun n : Nat => (n : Int) by rw [hsucc, List.map_append]; rfl] at hm2 ⊢
   refine rr ?_
   exact ro hK2 (j + 1, m2, sa2, sc2) ⟨hlt, hm2⟩
  | false =>
   rw [hr, if_neg (by simp)] at hsucc
   rw [← hsucc] at hm ⊢
   refine rr ?_
   exact ro hK2 (j + 1, m, sa, sc) ⟨hlt, hm⟩
 ·obtain rfl : j = l.length := by omega
  refine rr ?_
  have hcc : candG l ats (out.length : Int) l.length = candsF l ats (out.length : Int) := rfl
  have hcl := candG_len l ats (out.length : Int) l.length
  have hclt := candG_lt l ats (out.length : Int) l.length
  have hle := fun s => leastC s b7 m sa sc (candG l ats (out.length : Int) l.length) b3 ha hc (htsF l) (by omega) (fun v hv => by rw [hts]; exact hclt v hv)
  rw [hts] at hle
  unfold setI boxS lessV at hle
  have hall := allSC b7
  unfold boxS at hall
  rw [hcc] at hle ⊢
  refine cl (hall) ?_
  intro s _
  try simp only [Sx.ap1, Sx.ap2, Sx.ap3]
  refine rr ?_
  refine cl (hle s) (ho := fun _ => by cases m <;> rfl) ?_
  intro _ _
  try simp only [Sx.ap1, Sx.ap2, Sx.ap3]
  cases hb : bestF (htsF l) (candsF l ats (out.length : Int)) with
  | none =>
   dsimp only [Option.isSome_none, Option.getD_none]
   obtain ⟨hx2, hmu⟩ := hx.stall (by omega) hb
   refine rr ?_
   intro b9 _
   refine rr ?_
   rintro ⟨pa, pc⟩ ⟨ph, _⟩
   refine rr ?_
   rw [← i64C_snoc, show out.length + 1 = (out ++ [(-1 : Int)]).length by simp]
   exact ro hK1 ((ats, out ++ [-1], left), pa, pc) hx2
  | some b =>
   dsimp only [Option.isSome_some, Option.getD_some]
   obtain ⟨hx2, hmu, hlp2, hbl⟩ := hx.put hb
   have hial : (i64C ats).length = l.length := by rw [i64C_len]; exact hal
   have hse : (i64C ats).set (0 + (b : Int).toNat * 1) (.int .i64 (out.length : Int)) = i64C (ats.set b (out.length : Int)) := by rw [show 0 + (b : Int).toNat * 1 = b by omega, i64C_set]
   have hlf : (left : Int) - 1 = ((left - 1 : Nat) : Int) := by omega
   refine w_use (fun w hw => (hw.pick 6 rfl).row_some (by first | omega | decide | (simp; done) | (simp <;> omega))) ?_
   rintro ⟨gr, rfl⟩
   refine rr ?_
   intro b9 _
   refine rr ?_
   rintro ⟨pa, pc⟩ ⟨ph, _⟩
   refine rr ?_
   rw [← i64C_snoc, show out.length + 1 = (out ++ [(b : Int)]).length by simp, hse]
   exact ro hK1 ((ats.set b (out.length : Int), out ++ [(b : Int)], left - 1), pa, pc) hx2 (hE := by rw [← hlf]; exact ⟨rfl, rfl, rfl, rfl, rfl, trivial⟩)
end Go.Proofs.YtkolmklfgbimoaaGreatDoor
namespace Go.Proofs.YtkolmklfgbimoaaGreatDoor
open Go Go.Sx Go.Sx.Chunk
set_option maxRecDepth 100000
set_option maxHeartbeats 4000000 in
theorem clearC (la : Option Addr) (lc : Nat) (l : List In) (oa : Option Addr) (oc : Nat) (o : List Int) (last : In) (p : Int) (hl : l.length ≤ 4096) (hol : o.length ≤ 20000) (ho : ∀ x ∈ o, x = -1 ∨ (0 ≤ x ∧ x < l.length)) (hp : 0 ≤ p ∧ p ≤ 100000) : FnC (α := Unit) Tryz.prog 140 [.slice la l.length lc, .slice oa o.length oc, inG last, .int .i64 p] [] [rng la (insC l), rng oa (i64C o)] (fun _ => .bool (clearF l o last p)) (fun _ => []) (fun _ => True) := by
 have hcl := insC_len l
 have hco := i64C_len o
 unfold clearF inG
 refine fn_intro Tryz.func140 Tryz.ntmps140 rfl rfl rfl (fun w0 => ?_)
 try simp only [Sx.ap1, Sx.ap2, Sx.ap3]
 refine rr ?_
 intro b6 _
 refine rr ?_
 refine lo [0, 3, 6, 11, 12] (fun k : Nat => [(13, .int .i64 (k : Int))]) (fun k => []) (fun k => k ≤ o.length ∧ clearG l last p 0 o = clearG l last p k (o.drop k)) (fun k => o.length - k) 0 ⟨Nat.zero_le _, rfl⟩ ?_
 rintro k ⟨hk, hcg⟩ K1 hK1
 try dsimp only at hk hcg ⊢
 rw [hcg]
 by_cases hlt : k < o.length
 ·obtain ⟨v, hv⟩ := some_at hlt
  have hvo := ho v (List.mem_of_getElem? hv)
  rw [drop_at hv] at hcg ⊢
  rw [clearG] at hcg ⊢
  have hgk : (i64C o)[(k : Int).toNat * 1]? = some (.int .i64 v) := by rw [show (k : Int).toNat * 1 = k by omega]; exact i64C_get hv
  refine w_use (fun w hw => (hw.pick 2 rfl).rng_some (by omega)) ?_
  rintro ⟨g2, rfl⟩
  by_cases hv0 : 0 ≤ v
  ·obtain ⟨j, rfl⟩ : ∃ j : Nat, v = (j : Int) := ⟨v.toNat, by omega⟩
   have hjl : j < l.length := by omega
   obtain ⟨ej, hej⟩ := some_at hjl
   have hgd : l.getD ((j : Int)).toNat nopI = ej := by rw [Int.toNat_natCast]; simp [List.getD, hej]
   rw [hgd] at hcg ⊢
   have hfb := farF_le ej last
   have hfc := farC ej last
   unfold inG at hfc
   have hejA : ((insC l).drop ((j : Int).toNat * 5)).take 5 = [.int .i64 ej.op, .int .i64 ej.a, .int .i64 ej.b, .int .i64 ej.c, .int .i64 ej.imm] := insC_all hej _ (by omega)
   have hejL := insC_len l
   refine w_use (fun w hw => (hw.pick 1 rfl).rng_some (by omega)) ?_
   rintro ⟨g1, rfl⟩
   refine rr ?_
   refine dr [0, 1, 2, 3, 4, 5, 6, 7, 8, 11, 9, 10, 12, 13] [7, 8] [0, 1] ?_
   refine rr ?_
   refine cle (hfc) ?_
   intro _ _
   try simp only [Sx.ap1, Sx.ap2, Sx.ap3]
   generalize farF ej last = f at *
   by_cases hpf : p < (k : Int) + f
   ·rw [if_pos ⟨hv0, hpf⟩]
    refine rr ?_
    exact en () trivial
   ·rw [if_neg (fun h => hpf h.2)] at hcg ⊢
    refine rr ?_
    exact ro hK1 (k + 1) ⟨hlt, hcg⟩
  ·rw [if_neg (fun h => hv0 h.1)] at hcg ⊢
   refine rr ?_
   refine dr [0, 1, 2, 3, 4, 5, 6, 7, 8, 11, 9, 10, 12, 13] [7, 8] [0, 1] ?_
   refine rr ?_
   exact ro hK1 (k + 1) ⟨hlt, hcg⟩
 ·obtain rfl : k = o.length := by omega
  rw [List.drop_length]
  refine rr ?_
  exact en () trivial
end Go.Proofs.YtkolmklfgbimoaaGreatDoor

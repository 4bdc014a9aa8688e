/- Small rules for symbolic steps, the twenty-third part: chunks that are found by looking; loops whose environment is worked out. Program-independent. -/
import Derived.Test.YtgmegfmabkkaoaaSxM
namespace Go.Sx
open Go Chunk
set_option linter.unusedSimpArgs false
set_option linter.unusedVariables false

/-- The chunks A, found in H one by one; R: what is left. -/
inductive Has : List Chunk → List Chunk → List Chunk → Prop where
  | nil {H : List Chunk} : Has H [] H
  | cons {H H' A R : List Chunk} {c : Chunk} {i : Nat} (h : Sx.pick H i = some (c, H')) (t : Has H' A R) : Has H (c :: A) R
  | nrow {H A R : List Chunk} {e : TypeId} {sz : Nat} (t : Has H A R) : Has H (row none 0 e sz 0 [] :: A) R
  | gen0 {H A R : List Chunk} (t : Has H A R) : Has H (genL [] :: A) R
theorem nrow_own {e : TypeId} {sz k : Nat} (h : (row none 0 e sz 0 []).own k) : False := by
  have h' : (Value.slice none 0 0).ownBlock = some k := h
  simp [Value.ownBlock] at h'
theorem gen0_own {k : Nat} (h : (genL []).own k) : False := by
  obtain ⟨x, hx, _⟩ := h
  cases hx
theorem Sep.has {w0 w : World} {M : Nat → Prop} : ∀ {H A R : List Chunk}, Has H A R → St w0 M w H → St w0 M w (A ++ R) ∧ ∀ d ∈ A ++ R, d ∈ H ∨ ∀ k, ¬ d.own k := by
  intro H A R h
  induction h with
  | nil => exact fun hw => ⟨hw, fun d hd => .inl hd⟩
  | cons hp t ih =>
    rename_i H H' A R c i
    intro hw
    have hw' := hw.pick i hp
    obtain ⟨hb, h1, h2, h3, h4⟩ := hw'
    obtain ⟨⟨_, g1⟩, g2⟩ := ih ⟨hb, h4⟩
    obtain ⟨m1, m2⟩ := pick_mem hp
    refine ⟨⟨hb, h1, h2, fun d hd => ?_, g1⟩, fun d hd => ?_⟩
    · rcases g2 d hd with h5 | h5
      · exact h3 d h5
      · exact fun _ k _ hk => h5 k hk
    · rcases List.mem_cons.1 hd with rfl | hd
      · exact .inl m1
      · rcases g2 d hd with h5 | h5
        · exact .inl (m2 d h5)
        · exact .inr h5
  | nrow t ih =>
    rename_i H A R e sz
    intro hw
    obtain ⟨g1, g2⟩ := ih hw
    refine ⟨g1.row_nil e sz, fun d hd => ?_⟩
    rcases List.mem_cons.1 hd with rfl | hd
    · exact .inr (fun k hk => nrow_own hk)
    · exact g2 d hd
  | gen0 t ih =>
    rename_i H A R
    intro hw
    obtain ⟨g1, g2⟩ := ih hw
    refine ⟨g1.gen0, fun d hd => ?_⟩
    rcases List.mem_cons.1 hd with rfl | hd
    · exact .inr (fun k hk => gen0_own hk)
    · exact g2 d hd
theorem St.has {w0 w : World} {M : Nat → Prop} {H A R : List Chunk} (hw : St w0 M w H) (h : Has H A R) : St w0 M w (A ++ R) := (Sep.has h hw).1
theorem St.hasA {w0 w : World} {M : Nat → Prop} {H A R : List Chunk} (hw : St w0 M w H) (h : Has H A R) : St w0 M w A := by
  obtain ⟨hb, hs⟩ := hw.has h
  exact ⟨hb, (Sep.append.1 hs).1⟩
theorem picks_zeros : ∀ (A R : List Chunk), picks (A.map fun _ => 0) (A ++ R) = some (A, R)
  | [], R => rfl
  | c :: A, R => by
    simp only [List.map_cons, List.cons_append, picks, Sx.pick]
    rw [picks_zeros A R]

/-- What is known of some temporaries. -/
def Env.restr (E : Env) : List Nat → Option Env
  | [] => some []
  | t :: ts => match Env.restr E ts with
    | some r => (match E.get t with
      | some v => some ((t, v) :: r)
      | none => some r)
    | none => none
def Env.app : Env → Env → Option Env
  | [], F => some F
  | x :: E, F => match Env.app E F with
    | some r => some (x :: r)
    | none => none
def setC1 : List Chunk → Nat → Chunk → Option (List Chunk)
  | [], _, _ => none
  | _ :: H, 0, d => some (d :: H)
  | c :: H, i + 1, d => match setC1 H i d with
    | some r => some (c :: r)
    | none => none
def setCs (H : List Chunk) : List (Nat × Chunk) → Option (List Chunk)
  | [] => some H
  | p :: l => match setCs H l with
    | some r => setC1 r p.1 p.2
    | none => none
/-- All but some. -/
def dropC1 : List Chunk → Nat → Option (List Chunk)
  | [], _ => none
  | _ :: H, 0 => some H
  | c :: H, i + 1 => match dropC1 H i with
    | some r => some (c :: r)
    | none => none
/-- The places (from the greatest to the least) are left out. -/
def dropCs (H : List Chunk) : List Nat → Option (List Chunk)
  | [] => some H
  | i :: l => match dropC1 H i with
    | some r => dropCs r l
    | none => none
theorem dropC1_mem : ∀ {H : List Chunk} {i : Nat} {R : List Chunk}, dropC1 H i = some R → ∀ c ∈ R, c ∈ H
  | [], i, R, h, c, hc => by simp [dropC1] at h
  | x :: H, 0, R, h, c, hc => by simp only [dropC1, Option.some.injEq] at h; subst h; simp [hc]
  | x :: H, i + 1, R, h, c, hc => by
    simp only [dropC1] at h
    split at h
    · rename_i r hr
      simp only [Option.some.injEq] at h
      subst h
      rcases List.mem_cons.1 hc with rfl | hc
      · simp
      · simp [dropC1_mem hr c hc]
    · cases h
theorem dropCs_mem : ∀ {l : List Nat} {H R : List Chunk}, dropCs H l = some R → ∀ c ∈ R, c ∈ H
  | [], H, R, h, c, hc => by simp only [dropCs, Option.some.injEq] at h; subst h; exact hc
  | i :: l, H, R, h, c, hc => by
    simp only [dropCs] at h
    split at h
    · rename_i r hr
      exact dropC1_mem hr c (dropCs_mem h c hc)
    · cases h
theorem mem_nthC : ∀ {H : List Chunk} {c : Chunk}, c ∈ H → ∃ i, nthC H i = some c
  | [], c, h => by simp at h
  | x :: H, c, h => by
    rcases List.mem_cons.1 h with rfl | h
    · exact ⟨0, rfl⟩
    · obtain ⟨i, hi⟩ := mem_nthC h
      exact ⟨i + 1, hi⟩
theorem nthsC_of : ∀ {Hs H : List Chunk}, (∀ c ∈ Hs, c ∈ H) → ∃ places, nthsC H places = some Hs
  | [], H, _ => ⟨[], by simp [nthsC]⟩
  | c :: Hs, H, h => by
    obtain ⟨i, hi⟩ := mem_nthC (h c (by simp))
    obtain ⟨ps, hps⟩ := nthsC_of (Hs := Hs) (H := H) (fun d hd => h d (by simp [hd]))
    exact ⟨i :: ps, by simp [nthsC, hi, hps]⟩
section
variable {P : Program} {T : Tab P} {n : Cx} {Q : Exit → Act → World → Prop} {E : Env} {w0 : World} {M : Nat → Prop} {H H' : List Chunk} {l L : List Oper}
  {d : Nat} {ty : TypeId} {pos : String} {after : Array Edge} {G : World → Prop}
theorem env_nil : EnvSub E [] := trivial
theorem env_cons {F : Env} {t : Nat} {v : Value} (h : E.get t = some v) (hs : EnvSub E F) : EnvSub E ((t, v) :: F) := ⟨h, hs⟩
theorem w_has {R : List Chunk} (hp : Has H H' R) (h : Wd w0 M (H' ++ R) G) : Wd w0 M H G := fun w hw => h w (hw.has hp)
theorem w_hasA {R : List Chunk} (hp : Has H H' R) (h : Wd w0 M H' G) : Wd w0 M H G := fun w hw => h w (hw.hasA hp)
theorem w_drawX (hm : P.follows .mixedOrders = true) (ord ls ex : List Nat) {id : Nat} {Hs : List Chunk} (hd : noDef l = true) (hs : dropCs H ex = some Hs) (h : WS w0 M H Hs (XO P l n Q (SC Hs) ls E ord l.toArray.size (Array.replicate l.toArray.size false))) :
    Wd w0 M H (XC P n Q E (.region id l.toArray true)) := by
  obtain ⟨places, hp⟩ := nthsC_of (dropCs_mem hs)
  exact w_draw hm ord ls places hd hp h
/-- A loop. -/
theorem w_loopC {α : Type} {c : Code} (ts : List Nat) (cv : α → Env) (hs : α → List (Nat × Chunk)) (φ : α → Prop) (μ : α → Nat) (x0 : α) {Er : Env} {Ev : α → Env} {Hv : α → List Chunk} (hr : E.restr ts = some Er) (hEv : ∀ x, Env.app (cv x) Er = some (Ev x)) (hHv : ∀ x, setCs H (hs x) = some (Hv x))
    (hE : EnvSub E (Ev x0)) (hH : H = Hv x0) (hφ : φ x0)
    (round : ∀ x, φ x → ∀ K : Act → World → Prop, (∀ y E', φ y → μ y < μ x → EnvSub E' (Ev y) → Wd w0 M (Hv y) (fun w => ∀ a, EnvOk a E' n → K a w)) → Wd w0 M (Hv x) (XC P n (Exit.then K Q) (Ev x) c)) : Wd w0 M H (XC P n Q E (.loop c)) :=
  w_loop Ev Hv φ μ x0 hE hH hφ round
theorem w_roundC {α : Type} {K : Act → World → Prop} {Ev : α → Env} {Hv : α → List Chunk} {φ : α → Prop} {μ : α → Nat} {x : α} {R : List Chunk} (hK : ∀ y E', φ y → μ y < μ x → EnvSub E' (Ev y) → Wd w0 M (Hv y) (fun w => ∀ a, EnvOk a E' n → K a w))
    (y : α) (hφ : φ y) (hμ : μ y < μ x) (hp : Has H (Hv y) R) (hE : EnvSub E (Ev y)) : Wd w0 M H (XQ n (Exit.then K Q) .normal E) :=
  w_hasA hp (w_round hK y hφ hμ rfl hE)
/-! ### Addresses that are not told -/
/-- The address of a slice that has elements. -/
def bs (ao : Option Addr) : Addr := ao.getD ⟨0, 0, none⟩
theorem bs_some {a : Addr} : bs (some a) = a := rfl
theorem rng_bs {w : World} {ao : Option Addr} {cs : List Value} (h : (rng ao cs).ok w) (hl : 0 < cs.length) : ao = some (bs ao) := by
  obtain ⟨a, ha, _⟩ := h 0 cs[0] (by simp [hl])
  rw [ha]; rfl
theorem row_rng_ok {w : World} {a : Option Addr} {cap e sz n : Nat} {xs : List Value} (h : (row a cap e sz n xs).ok w) : (rng a xs).ok w := row_rng.2 w (fun x hx => by simp only [List.mem_singleton] at hx; subst hx; exact h)
theorem row_bs {w : World} {ao : Option Addr} {cap e sz n : Nat} {xs : List Value} (h : (row ao cap e sz n xs).ok w) (hl : 0 < n) : ao = some (bs ao) := by
  rcases h.2 with ⟨_, hz⟩ | ⟨g, _, _, hv, _⟩
  · omega
  · simp only [Value.slice.injEq] at hv
    rw [hv.1]; rfl
section
variable {C : List Chunk} {i : Nat} {x y : Operand} {t : TypeId} {ti : TyI}
theorem ld_oG (T : Tab P) {ao : Option Addr} {ad : Addr} {j : Nat} {xs : List Value} {v : Value} (hx : E.ev x = some (.pointer (some ad))) (ho : ad = (bs ao).add j) (hp : nthC C i = some (rng ao xs)) (ht : T.get t = some ti) (hi : isAggD ti.desc = false) (hv : xs[j]? = some v) : Lds P n C E (.load t x) ty v :=
  .mk <| fun _ _ _ _ a ha w hw => run_load_cell' T rfl (ha.eval hx) ht hi (by
    obtain ⟨a', rfl, hc⟩ := (hw.nth hp) j v hv
    rw [ho]; exact hc)
theorem ld_oGs (T : Tab P) {ao : Option Addr} {ad : Addr} {j : Nat} {xs vs : List Value} (hx : E.ev x = some (.pointer (some ad))) (ho : ad = (bs ao).add j) (hp : nthC C i = some (rng ao xs)) (ht : T.get t = some ti) (hi : isAggD ti.desc = true) (hv : (xs.drop j).take ti.size = vs) (hl : j + ti.size ≤ xs.length) : Lds P n C E (.load t x) ty (.agg vs.toArray) :=
  .mk <| fun _ _ _ _ a ha w hw => run_load_cells' T rfl (ha.eval hx) ht hi (by rw [← hv, List.length_take, List.length_drop]; omega) (fun k v hk => by
    rw [← hv, List.getElem?_take] at hk
    split at hk
    · rw [List.getElem?_drop] at hk
      obtain ⟨a', rfl, hc⟩ := (hw.nth hp) (j + k) v hk
      rw [ho, add_add]; exact hc
    · cases hk)
theorem ld_oR (T : Tab P) {ao : Option Addr} {ad : Addr} {j cap e sz m : Nat} {xs : List Value} {v : Value} (hx : E.ev x = some (.pointer (some ad))) (ho : ad = (bs ao).add j) (hp : nthC C i = some (row ao cap e sz m xs)) (ht : T.get t = some ti) (hi : isAggD ti.desc = false) (hv : xs[j]? = some v) : Lds P n C E (.load t x) ty v :=
  .mk <| fun _ _ _ _ a ha w hw => run_load_cell' T rfl (ha.eval hx) ht hi (by
    obtain ⟨a', rfl, hc⟩ := (row_rng_ok (hw.nth hp)) j v hv
    rw [ho]; exact hc)
theorem ld_oRs (T : Tab P) {ao : Option Addr} {ad : Addr} {j cap e sz m : Nat} {xs vs : List Value} (hx : E.ev x = some (.pointer (some ad))) (ho : ad = (bs ao).add j) (hp : nthC C i = some (row ao cap e sz m xs)) (ht : T.get t = some ti) (hi : isAggD ti.desc = true) (hv : (xs.drop j).take ti.size = vs) (hl : j + ti.size ≤ xs.length) : Lds P n C E (.load t x) ty (.agg vs.toArray) :=
  .mk <| fun _ _ _ _ a ha w hw => run_load_cells' T rfl (ha.eval hx) ht hi (by rw [← hv, List.length_take, List.length_drop]; omega) (fun k v hk => by
    rw [← hv, List.getElem?_take] at hk
    split at hk
    · rw [List.getElem?_drop] at hk
      obtain ⟨a', rfl, hc⟩ := (row_rng_ok (hw.nth hp)) (j + k) v hk
      rw [ho, add_add]; exact hc
    · cases hk)
theorem eff_store_oRs (T : Tab P) {e : TypeId} {ao : Option Addr} {ad : Addr} {o cap sz m : Nat} {xs vs : List Value} {v : Value} (hx : E.ev x = some (.pointer (some ad))) (hao : ad = (bs ao).add o) (hp : Sx.pick H i = some (row ao cap e sz m xs, H')) (hy : E.ev y = some v) (hv : cellsO v = some vs) (h1 : oneC vs = true)
    (ht : T.get t = some ti) (hz : Nat.beq vs.length ti.size = true) (hpos : Nat.blt 0 vs.length = true) (ho : o + vs.length ≤ xs.length) : Eff (α := Unit) P n w0 M H E none (.store t x y) ty (fun _ => True) (fun _ => E) (fun _ => row ao cap e sz m (xs.take o ++ vs ++ xs.drop (o + vs.length)) :: H') := by
  refine ⟨fun pos after ops Q L w hw h => ?_⟩
  have hok := (hw.pick i hp).head
  have hpos' : 0 < vs.length := by simpa [Nat.blt_eq] using hpos
  have hok' : w.ownsRow 0 e sz (.slice ao m cap) m xs := hok
  have hm : ∃ g, ao = some ⟨g, 0, none⟩ := by
    rcases hok'.2 with ⟨_, hz⟩ | ⟨g, _, _, hv, _⟩
    · have := hok'.1
      rw [hz, Nat.zero_mul] at this
      omega
    · simp only [Value.slice.injEq] at hv; exact ⟨g, hv.1⟩
  obtain ⟨g, rfl⟩ := hm
  have e1 : ad = ⟨g, o, none⟩ := by rw [hao, bs_some, addr_add, Nat.zero_add]
  subst e1
  exact (eff_store_rs (n := n) (w0 := w0) (M := M) (ty := ty) T hx hp hy hv h1 ht hz ho).run pos after ops Q L w hw h
theorem eff_store_oR (T : Tab P) {e : TypeId} {ao : Option Addr} {ad : Addr} {o cap sz m : Nat} {xs : List Value} {v : Value} (hx : E.ev x = some (.pointer (some ad))) (hao : ad = (bs ao).add o) (hp : Sx.pick H i = some (row ao cap e sz m xs, H')) (hy : E.ev y = some v) (hv : cellsO v = some [v]) (h1 : oneC [v] = true)
    (ht : T.get t = some ti) (hz : Nat.beq 1 ti.size = true) (ho : o < xs.length) : Eff (α := Unit) P n w0 M H E none (.store t x y) ty (fun _ => True) (fun _ => E) (fun _ => row ao cap e sz m (xs.set o v) :: H') := by
  have := eff_store_oRs (n := n) (w0 := w0) (M := M) (ty := ty) (vs := [v]) T hx hao hp hy hv h1 ht hz rfl (by simp; omega)
  rw [show xs.take o ++ [v] ++ xs.drop (o + [v].length) = xs.set o v by rw [List.set_eq_take_append_cons_drop, if_pos ho]; simp] at this
  exact this
variable {e : TypeId} {ud : TypeDesc} {us ub : Nat} {uz : List Value} {k : IntKind} {m : Int} {ao : Option Addr} {len cap : Nat}
theorem w_idxG (T : Tab P) {xs : List Value} (hx : E.ev x = some (.slice ao len cap)) (hy : E.ev y = some (.int k m)) (ht : T.get t = some ti) (hi : ti.desc = .slice e) (he : T.get e = some ⟨ud, us, ub, uz⟩) (hp : nthC H i = some (rng ao xs)) (h0 : 0 ≤ m) (h1 : m < len) (hl : 0 < xs.length) (hn : Nat.blt d n.m = true)
    (h : Wd w0 M H (XR P l n Q ((d, .pointer (some ((bs ao).add (m.toNat * us)))) :: E) L)) : Wd w0 M H (XR P l n Q E (⟨some d, .indexAddr t x y, ty, pos, after, none⟩ :: L)) :=
  w_use (fun w hw => rng_bs (hw.nth i hp) hl) (fun hao => w_g (g_indexAddrG T (by rw [hx]; exact congrArg some (congrArg (fun z => Value.slice z len cap) hao)) hy ht hi he h0 h1) hn h)
theorem w_idxR (T : Tab P) {xs : List Value} {cap' e' sz nn : Nat} (hx : E.ev x = some (.slice ao len cap)) (hy : E.ev y = some (.int k m)) (ht : T.get t = some ti) (hi : ti.desc = .slice e) (he : T.get e = some ⟨ud, us, ub, uz⟩) (hp : nthC H i = some (row ao cap' e' sz nn xs)) (h0 : 0 ≤ m) (h1 : m < len) (hl : 0 < nn) (hn : Nat.blt d n.m = true)
    (h : Wd w0 M H (XR P l n Q ((d, .pointer (some ((bs ao).add (m.toNat * us)))) :: E) L)) : Wd w0 M H (XR P l n Q E (⟨some d, .indexAddr t x y, ty, pos, after, none⟩ :: L)) :=
  w_use (fun w hw => row_bs (hw.nth i hp) hl) (fun hao => w_g (g_indexAddrG T (by rw [hx]; exact congrArg some (congrArg (fun z => Value.slice z len cap) hao)) hy ht hi he h0 h1) hn h)
variable {Hk : List Chunk} {S : World → Prop} {ls ord : List Nat} {fuel j : Nat} {listed : Array Bool} {g : Option (Nat × Bool)}
theorem wa_idxG (T : Tab P) {xs : List Value} (hj : nthO l j = some ⟨some d, .indexAddr t x y, ty, pos, after, g⟩) (hg : guardYes l E g = true) (hx : E.ev x = some (.slice ao len cap)) (hy : E.ev y = some (.int k m)) (ht : T.get t = some ti) (hi : ti.desc = .slice e) (he : T.get e = some ⟨ud, us, ub, uz⟩) (hp : nthC H i = some (rng ao xs)) (h0 : 0 ≤ m) (h1 : m < len) (hl : 0 < xs.length) (hn : Nat.blt d n.m = true) (hc : chk l.toArray listed j = true)
    (h : WS w0 M H Hk (XO P l n Q S ls ((d, .pointer (some ((bs ao).add (m.toNat * us)))) :: E) ord fuel (listed.setIfInBounds j true))) : WS w0 M H Hk (XO P l n Q S ls E (j :: ord) (fuel + 1) listed) :=
  wa_use (fun w hw => rng_bs (hw.nth i hp) hl) (fun hao => wa_g hj hg (g_indexAddrG T (by rw [hx]; exact congrArg some (congrArg (fun z => Value.slice z len cap) hao)) hy ht hi he h0 h1) hn hc h)
theorem wa_idxR (T : Tab P) {xs : List Value} {cap' e' sz nn : Nat} (hj : nthO l j = some ⟨some d, .indexAddr t x y, ty, pos, after, g⟩) (hg : guardYes l E g = true) (hx : E.ev x = some (.slice ao len cap)) (hy : E.ev y = some (.int k m)) (ht : T.get t = some ti) (hi : ti.desc = .slice e) (he : T.get e = some ⟨ud, us, ub, uz⟩) (hp : nthC H i = some (row ao cap' e' sz nn xs)) (h0 : 0 ≤ m) (h1 : m < len) (hl : 0 < nn) (hn : Nat.blt d n.m = true) (hc : chk l.toArray listed j = true)
    (h : WS w0 M H Hk (XO P l n Q S ls ((d, .pointer (some ((bs ao).add (m.toNat * us)))) :: E) ord fuel (listed.setIfInBounds j true))) : WS w0 M H Hk (XO P l n Q S ls E (j :: ord) (fuel + 1) listed) :=
  wa_use (fun w hw => row_bs (hw.nth i hp) hl) (fun hao => wa_g hj hg (g_indexAddrG T (by rw [hx]; exact congrArg some (congrArg (fun z => Value.slice z len cap) hao)) hy ht hi he h0 h1) hn hc h)
end
end
end Go.Sx

/- Small rules for symbolic steps, the eighteenth part: ranges over functions. Program-independent. -/
import Derived.Test.YtgmegfmabkkaoaaSxH
import Derived.RangeFuncCalls
namespace Go.Sx
open Go Chunk
set_option linter.unusedSimpArgs false
set_option linter.unusedVariables false
def markD (D : Nat) : Deferred := { target := .collected D, args := #[] }
/-- A loop's record, between two rounds. -/
def recL (fn : FuncId) (tmps : Array Value) (ps : Array Tmp) (assign body : Code) (D : Nat) : Loop := { state := .ready, pending := none, fn, tmps, params := ps, assign, body, defers := D }
/-- A call of yield. -/
structure YdC {α : Type} (P : Program) (l : Nat) (args : List Value) (A : List Chunk) (val : α → Value) (out : α → List Chunk) (Φ : α → Prop) : Prop where
  run : ∀ w, St w (ownsW A) w A → ∃ fn tmps assign body, (Instr.yield l args.toArray).run P w = .ok (.round l fn tmps assign body) w ∧ RoundIn (FW none) 0 P l fn tmps assign body w (Ret w A val out Φ)
def defD (D : Nat) : Chunk := obj D (.deferred (some []))
def recC (l : Nat) (r : Loop) : Chunk := obj l (.loop r)
/-- The post of a function that holds a range over a function. -/
def bodyM (P : Program) (fn : Func) (R : Ending → World → Prop) : Exit → Act → World → Prop
  | .panic _, _, _ => False
  | .outgrown, _, _ => False
  | e, a, w => bodyPostM (FW none) 0 P fn R e a w
theorem qok_bodyM {P : Program} {fn : Func} {R : Ending → World → Prop} : QOk (bodyM P fn R) := ⟨fun _ _ _ _ _ h => h, fun _ _ h => h⟩
theorem qok_round {P : Program} {l : Nat} {R : Ending → World → Prop} : QOk (roundPost P l R) := ⟨fun _ _ _ _ _ h => h, fun _ _ h => h⟩
theorem qok_false : QOk (fun _ _ _ => False) := ⟨fun _ _ _ _ _ h => h, fun _ _ h => h⟩
def beginK (P : Program) (l : Nat) (body : Code) (R : Ending → World → Prop) (a : Act) (w : World) : Prop := ∃ w₂, (Instr.beginRound l).run P w = .ok () w₂ ∧ body.wpIn (FW (some l)) 0 P (roundPost P l R) a w₂
def yieldK (P : Program) (l : List Oper) (ro : Option Nat) (o : Oper) (L2 : List Oper) (Q : Exit → Act → World → Prop) (a : Act) (w : World) : Prop := QOk Q ∧ wpListIn (FW ro) 0 P l.toArray Q (o :: L2) a w
theorem uponIn_then {F : Fence} {n : Nat} {P : Program} {o : Oper} {a : Act} {w : World} {K K' : Act → World → Prop} {Q : Exit → Act → World → Prop} (h : o.wpIn F n P a w K (Exit.then K' Q)) : o.wpIn F n P a w K Q := by
  unfold Oper.wpIn at h ⊢
  refine ⟨h.1, ?_⟩
  have h2 := h.2
  generalize (o.semAt F.round a.eval).run P w = r at h2 ⊢
  cases r with
  | ok x w' => cases x <;> simp only [Oper.uponIn] at h2 ⊢ <;> exact h2
  | halt x w' => cases x <;> simp only [Oper.uponIn] at h2 ⊢ <;> exact h2
theorem listIn_append {F : Fence} {n : Nat} {P : Program} {ops : Array Oper} {Q : Exit → Act → World → Prop} {L2 : List Oper} : ∀ {L1 : List Oper} {a : Act} {w : World}, wpListIn F n P ops (Exit.then (wpListIn F n P ops Q L2) Q) L1 a w → wpListIn F n P ops Q (L1 ++ L2) a w
  | [], _, _, h => h
  | o :: L1, a, w, h => by
    unfold wpListIn at h
    rw [List.cons_append]
    unfold wpListIn
    split
    · rename_i hw
      rw [if_pos hw] at h
      exact uponIn_then (Oper.wpIn_mono (fun a w h => listIn_append h) h)
    · rename_i hw
      rw [if_neg hw] at h
      exact ⟨h.1, listIn_append h.2⟩
section
variable {P : Program} {T : Tab P} {n : Cx} {Q : Exit → Act → World → Prop} {E : Env} {w0 : World} {M : Nat → Prop} {H H' : List Chunk} {l L : List Oper}
  {d : Nat} {ty : TypeId} {pos : String} {after : Array Edge} {G : World → Prop} {C : List Chunk}
/-- Something of the front stands further behind. -/
theorem Sep.sink {w : World} {c : Chunk} {B : List Chunk} : ∀ {A : List Chunk}, Sep w0 M w (c :: (A ++ B)) → Sep w0 M w (A ++ c :: B)
  | [], h => h
  | a :: A, h => by
    obtain ⟨h1, h2, h3, h4, h5, h6, h7⟩ := h
    refine ⟨h4, h5, fun x hx => ?_, Sep.sink ⟨h1, h2, fun x hx => h3 x (by simp only [List.cons_append, List.mem_cons]; exact .inr hx), h7⟩⟩
    rcases List.mem_append.1 hx with hx | hx
    · exact h6 x (List.mem_append.2 (.inl hx))
    · rcases List.mem_cons.1 hx with rfl | hx
      · exact (h3 a (by simp)).symm
      · exact h6 x (List.mem_append.2 (.inr hx))
/-- A region that holds a call of yield. -/
theorem w_regionY {id : Nat} (L1 : List Oper) (o : Oper) (L2 : List Oper) (hl : l = L1 ++ o :: L2) (hd : noDef L1 = true) (h : Wd w0 M H (XR P l n (Exit.then (yieldK P l n.ro o L2 Q) Q) E L1)) : Wd w0 M H (XC P n Q E (.region id l.toArray false)) := fun w hw =>
  ⟨fun q a ha => by
    refine wpIn_region_list ?_
    have h1 := list_fw (ro := n.ro) q.then hd ((h w hw l.toArray (by simp)).run q.then a ha)
    have h2 : wpListIn (FW n.ro) 0 P l.toArray Q (L1 ++ o :: L2) a w := listIn_append (wpIn_list_mono h1)
    rw [List.toList_toArray]
    subst hl
    exact h2⟩
where
  wpIn_list_mono {F : Fence} {m : Nat} {ops : Array Oper} {o : Oper} {L2 : List Oper} {ro : Option Nat} {Q : Exit → Act → World → Prop} {l : List Oper} : ∀ {L1 : List Oper} {a : Act} {w : World}, wpListIn F m P ops (Exit.then (yieldK P l ro o L2 Q) Q) L1 a w → wpListIn F m P ops (Exit.then (wpListIn (FW ro) 0 P l.toArray Q (o :: L2)) Q) L1 a w
    | [], _, _, h => h.2
    | x :: L1, a, w, h => by
      unfold wpListIn at h ⊢
      split
      · rename_i hw
        rw [if_pos hw] at h
        have h' := uponIn_then h
        have h2 := Oper.wpIn_mono (K' := wpListIn F m P ops (Exit.then (wpListIn (FW ro) 0 P l.toArray Q (o :: L2)) Q) L1) (fun a w h => wpIn_list_mono h) h'
        unfold Oper.wpIn at h2 ⊢
        refine ⟨h2.1, ?_⟩
        have h3 := h2.2
        generalize (x.semAt F.round a.eval).run P w = r at h3 ⊢
        cases r with
        | ok x w' => cases x <;> simp only [Oper.uponIn] at h3 ⊢ <;> exact h3
        | halt x w' => cases x <;> simp only [Oper.uponIn] at h3 ⊢ <;> exact h3
      · rename_i hw
        rw [if_neg hw] at h
        exact ⟨h.1, wpIn_list_mono h.2⟩
/-- A list, cut at a place. -/
def splitO : List Oper → Nat → Option (List Oper × Oper × List Oper)
  | [], _ => none
  | o :: l, 0 => some ([], o, l)
  | x :: l, k + 1 => match splitO l k with
    | some (a, o, b) => some (x :: a, o, b)
    | none => none
theorem splitO_eq : ∀ {l : List Oper} {k : Nat} {a : List Oper} {o : Oper} {b : List Oper}, splitO l k = some (a, o, b) → l = a ++ o :: b
  | [], k, a, o, b, h => by simp [splitO] at h
  | x :: l, 0, a, o, b, h => by
    simp only [splitO, Option.some.injEq, Prod.mk.injEq] at h
    obtain ⟨rfl, rfl, rfl⟩ := h
    rfl
  | x :: l, k + 1, a, o, b, h => by
    simp only [splitO] at h
    split at h
    · rename_i a' o' b' h'
      cases h
      rw [List.cons_append, ← splitO_eq h']
    · cases h
theorem w_regionYn {id : Nat} (k : Nat) {L1 : List Oper} {o : Oper} {L2 : List Oper} (hl : splitO l k = some (L1, o, L2)) (hd : noDef L1 = true) (h : Wd w0 M H (XR P l n (Exit.then (yieldK P l n.ro o L2 Q) Q) E L1)) : Wd w0 M H (XC P n Q E (.region id l.toArray false)) := w_regionY L1 o L2 (splitO_eq hl) hd h
/-- The call of yield. -/
theorem w_yield {α : Type} (is : List Nat) {ly : Nat} {vs : List Value} {fo : Operand} {A R : List Chunk} {val : α → Value} {out : α → List Chunk} {Φ : α → Prop} {args : Array Operand} {ts : Array TypeId} {L2 : List Oper} (hs : YdC P ly vs A val out Φ)
    (hro : n.ro = none) (hf : E.ev fo = some (.func (.yield ly) #[] #[])) (ha : E.evs args.toList = some vs) (hp : picks is H = some (A, R)) (ho : ∀ x, allW (out x) = true) (hn : Nat.blt d n.m = true) (hd : noDef L2 = true)
    (h : ∀ z, Φ z → Wd w0 M (out z ++ R) (XR P l n Q ((d, val z) :: E) L2)) : Wd w0 M H (XQ n (Exit.then (yieldK P l n.ro (⟨some d, .call { callee := .value fo, args := args, argTypes := ts }, ty, pos, after, none⟩) L2 Q) Q) .normal E) := fun w hw =>
  ⟨fun q' act hact => by
    have q : QOk Q := ⟨q'.panic, q'.out⟩
    refine ⟨q, ?_⟩
    refine wpListIn_plain rfl fun K hK => ?_
    have hsep := picks_sep hp hw.sep
    obtain ⟨hA, hR, hAR⟩ := Sep.append.1 hsep
    have hpre : St w (ownsW A) w A := ⟨Base.refl _ _, hA.local _ (fun c hc hcw k hk => ownsW_mem.2 ⟨c, hc, hcw, hk⟩)⟩
    obtain ⟨fn, tmps, assign, body, hy, hround⟩ := hs.run w hpre
    have hargs : args.map act.eval = vs.toArray := by
      apply Array.ext'
      rw [Array.toList_map]
      simpa using hact.evals ha
    have hrun : (Oper.semAt (FW n.ro).round act.eval ⟨some d, .call { callee := .value fo, args := args, argTypes := ts }, ty, pos, after, none⟩).run P w = .ok (.round ly fn tmps assign body) w := by
      rw [Oper.semAt_eq _ _ _ (by simp)]
      simp [execOp, resolve, hact.eval hf, Deferred.ofValue, invoke, hargs, hy]
    unfold Oper.wpIn
    refine ⟨fun _ _ => trivial, ?_⟩
    rw [hrun, Oper.uponIn_round]
    refine ⟨fun h => (by cases h), ?_⟩
    rw [hro]
    refine hround.mono fun e w' hret => ?_
    obtain ⟨x, rfl, hst, hphi⟩ := hret
    have hst' := St.call hsep hw.base hst (fun c hc hcw => by rw [allW_mem (ho x) c hc] at hcw; cases hcw)
    refine hK _ _ ?_
    have h1 := (h x hphi w' hst' l.toArray (by simp)).run q _ (hact.put hn)
    exact list_fw q hd h1⟩
theorem Sep.comm {w : World} {A B : List Chunk} (h : Sep w0 M w (A ++ B)) : Sep w0 M w (B ++ A) := by
  obtain ⟨h1, h2, h3⟩ := Sep.append.1 h
  exact Sep.append.2 ⟨h2, h1, fun c hc d hd => (h3 d hd c hc).symm⟩
theorem St.comm {w : World} {A B : List Chunk} (h : St w0 M w (A ++ B)) : St w0 M w (B ++ A) := ⟨h.base, Sep.comm h.sep⟩
/-- The call of yield, where what it owns stands behind. -/
theorem w_yieldT {α : Type} {ly : Nat} {vs : List Value} {fo : Operand} {A R : List Chunk} {val : α → Value} {out : α → List Chunk} {Φ : α → Prop} {args : Array Operand} {ts : Array TypeId} {L2 : List Oper} (hs : YdC P ly vs A val out Φ)
    (hro : n.ro = none) (hf : E.ev fo = some (.func (.yield ly) #[] #[])) (ha : E.evs args.toList = some vs) (ho : ∀ x, allW (out x) = true) (hn : Nat.blt d n.m = true) (hd : noDef L2 = true)
    (h : ∀ z, Φ z → Wd w0 M (R ++ out z) (XR P l n Q ((d, val z) :: E) L2)) : Wd w0 M (R ++ A) (XQ n (Exit.then (yieldK P l n.ro (⟨some d, .call { callee := .value fo, args := args, argTypes := ts }, ty, pos, after, none⟩) L2 Q) Q) .normal E) := fun w hw =>
  ⟨fun q' act hact => by
    have q : QOk Q := ⟨q'.panic, q'.out⟩
    refine ⟨q, ?_⟩
    refine wpListIn_plain rfl fun K hK => ?_
    have hsep := Sep.comm hw.sep
    obtain ⟨hA, hR, hAR⟩ := Sep.append.1 hsep
    have hpre : St w (ownsW A) w A := ⟨Base.refl _ _, hA.local _ (fun c hc hcw k hk => ownsW_mem.2 ⟨c, hc, hcw, hk⟩)⟩
    obtain ⟨fn, tmps, assign, body, hy, hround⟩ := hs.run w hpre
    have hargs : args.map act.eval = vs.toArray := by
      apply Array.ext'
      rw [Array.toList_map]
      simpa using hact.evals ha
    have hrun : (Oper.semAt (FW n.ro).round act.eval ⟨some d, .call { callee := .value fo, args := args, argTypes := ts }, ty, pos, after, none⟩).run P w = .ok (.round ly fn tmps assign body) w := by
      rw [Oper.semAt_eq _ _ _ (by simp)]
      simp [execOp, resolve, hact.eval hf, Deferred.ofValue, invoke, hargs, hy]
    unfold Oper.wpIn
    refine ⟨fun _ _ => trivial, ?_⟩
    rw [hrun, Oper.uponIn_round]
    refine ⟨fun h => (by cases h), ?_⟩
    rw [hro]
    refine hround.mono fun e w' hret => ?_
    obtain ⟨x, rfl, hst, hphi⟩ := hret
    have hst' := (St.call hsep hw.base hst (fun c hc hcw => by rw [allW_mem (ho x) c hc] at hcw; cases hcw)).comm
    refine hK _ _ ?_
    have h1 := (h x hphi w' hst' l.toArray (by simp)).run q _ (hact.put hn)
    exact list_fw q hd h1⟩
/-- A round, out of its body. -/
theorem yd_intro {α : Type} {ly m : Nat} {r : Loop} {args : List Value} {A' : List Chunk} {val : α → Value} {out : α → List Chunk} {Φ : α → Prop} (hr : r.state = .ready) (ha : args.length = r.params.size)
    (henv : EnvOk { tmps := (r.params.zip args.toArray).foldl (fun tmps (p : Tmp × Value) => tmps.setIfInBounds p.1 p.2) r.tmps, defers := [] } E ⟨m, [], some ly⟩)
    (h : ∀ w0, Wd w0 (ownsW (recC ly r :: A')) (recC ly r :: A') (XC P ⟨m, [], some ly⟩ (Exit.then (beginK P ly r.body (Ret w0 (recC ly r :: A') val out Φ)) (fun _ _ _ => False)) E r.assign)) : YdC P ly args (recC ly r :: A') val out Φ :=
  ⟨fun w hw => by
    have hb : w.heap[ly]? = some (.loop r) := hw.head
    refine ⟨_, _, _, _, run_yield hb (by simpa using ha), ?_⟩
    refine roundIn_of_wpIn trivial ?_
    have h1 := (h w w hw).run ⟨fun _ _ _ _ _ h => h, fun _ _ h => h⟩ _ henv
    exact h1⟩
theorem w_begin {ly : Nat} {r : Loop} {body : Code} {R : Ending → World → Prop} (hro : n.ro = some ly) (hr : r.state = .ready) (h : Wd w0 M (recC ly { r with state := .busy } :: H) (XC P n (roundPost P ly R) E body)) : Wd w0 M (recC ly r :: H) (XQ n (Exit.then (beginK P ly body R) (fun _ _ _ => False)) .normal E) := fun w hw =>
  ⟨fun _ a ha => by
    have hb : w.heap[ly]? = some (.loop r) := hw.head
    have hlt : ly < w.heap.size := (Array.getElem?_eq_some_iff.1 hb).1
    refine ⟨_, run_beginRound hb hr, ?_⟩
    have hst : St w0 M (w.putObj ly (.loop { r with state := .busy })) (recC ly { r with state := .busy } :: H) := hw.turn rfl ⟨rfl, rfl, rfl, by simp, fun k _ hk => World.putObj_heap_other hk⟩ (World.putObj_heap_same hlt) (fun k hk => .inl hk)
    have h1 := (h _ hst).run qok_round a ha
    rw [hro] at h1
    exact h1⟩
section
variable {α : Type} {A R' : List Chunk} {val : α → Value} {out : α → List Chunk} {Φ : α → Prop}
/-- A round ends: off its end. -/
theorem w_rgo {ly i : Nat} {r : Loop} {H'' : List Chunk} (x : α) (is : List Nat) (hp0 : Sx.pick H i = some (recC ly r, H'')) (hv : .bool true = val x) (hp : picks is (recC ly { r with state := .ready, pending := none } :: H'') = some (out x, R')) (hx : Φ x) : Wd w0 (ownsW A) H (XQ n (roundPost P ly (Ret w0 A val out Φ)) .normal E) := fun w hw =>
  ⟨fun _ a ha => by
    have hw' := hw.pick i hp0
    have hb : w.heap[ly]? = some (.loop r) := hw'.head
    have hlt : ly < w.heap.size := (Array.getElem?_eq_some_iff.1 hb).1
    have hst : St w0 (ownsW A) (w.putObj ly (.loop { r with state := .ready, pending := none })) (recC ly { r with state := .ready, pending := none } :: H'') := hw'.turn rfl ⟨rfl, rfl, rfl, by simp, fun k _ hk => World.putObj_heap_other hk⟩ (World.putObj_heap_same hlt) (fun k hk => .inl hk)
    exact ⟨_, _, run_endRound none hb, x, by rw [← hv]; rfl, hst.sub is hp, hx⟩⟩
/-- A round is left. -/
theorem w_rleave {ly i : Nat} {r : Loop} {H'' : List Chunk} {e : Exit} {c : Code} (x : α) (is : List Nat) (he : (e = .ret ∧ c = .ret) ∨ ∃ id, e = .exit id ∧ c = .exit id) (hp0 : Sx.pick H i = some (recC ly r, H'')) (hv : .bool false = val x) (hp : picks is (recC ly { r with state := .done, pending := some c } :: H'') = some (out x, R')) (hx : Φ x) : Wd w0 (ownsW A) H (XQ n (roundPost P ly (Ret w0 A val out Φ)) e E) := fun w hw =>
  ⟨fun _ a ha => by
    have hw' := hw.pick i hp0
    have hb : w.heap[ly]? = some (.loop r) := hw'.head
    have hlt : ly < w.heap.size := (Array.getElem?_eq_some_iff.1 hb).1
    have hst : St w0 (ownsW A) (w.putObj ly (.loop { r with state := .done, pending := some c })) (recC ly { r with state := .done, pending := some c } :: H'') := hw'.turn rfl ⟨rfl, rfl, rfl, by simp, fun k _ hk => World.putObj_heap_other hk⟩ (World.putObj_heap_same hlt) (fun k hk => .inl hk)
    rcases he with ⟨rfl, rfl⟩ | ⟨id, rfl, rfl⟩
    · exact ⟨_, _, run_endRound (some .ret) hb, x, by rw [← hv]; rfl, hst.sub is hp, hx⟩
    · exact ⟨_, _, run_endRound (some (.exit id)) hb, x, by rw [← hv]; rfl, hst.sub is hp, hx⟩⟩
end
/-- The statement. -/
theorem w_rangeFunc {σ τ : Type} {g : Operand} {ps : Array Tmp} {assign body : Code} {gf : FuncId} {first cap : Array Value} {A R : List Chunk} (is : List Nat) (outN : σ → List Chunk) (outX : τ → List Chunk) (ΦN : σ → Prop) (ΦX : τ → Prop) (jump : τ → Code)
    (hcall : ∀ (ly D : Nat) (fn : FuncId) (tmps : Array Value), EnvOk { tmps := tmps, defers := [] } E ⟨n.m, [], some ly⟩ →
      FnC P gf (first.toList ++ [.func (.yield ly) #[] #[]] ++ cap.toList) (recC ly (recL fn tmps ps assign body D) :: A) [] (fun (_ : σ ⊕ τ) => .tuple #[])
        (Sum.elim (fun s => recC ly (recL fn tmps ps assign body D) :: outN s) (fun t => recC ly { recL fn tmps ps assign body D with state := .done, pending := some (jump t) } :: outX t)) (Sum.elim ΦN ΦX))
    (hro : n.ro = none) (hg : E.ev g = some (.func (.func gf) first cap)) (hp : picks is H = some (A, R)) (hoN : ∀ s, allW (outN s) = true) (hoX : ∀ t, allW (outX t) = true)
    (hnorm : ∀ D s, ΦN s → Wd w0 M (outN s ++ defD D :: R) (XQ ⟨n.m, markD D :: n.ds, none⟩ Q .normal E))
    (hjump : ∀ D t, ΦX t → Wd w0 M (outX t ++ defD D :: R) (XC P ⟨n.m, markD D :: n.ds, none⟩ Q E (jump t))) : Wd w0 M H (XC P n Q E (.rangeFunc g ps assign body)) := fun w hw =>
  ⟨fun q a ha => by
    rw [hro]
    refine wpIn_rangeFunc fun fn _ => ?_
    have hsep := picks_sep hp hw.sep
    have hst0 : St w0 M w (A ++ R) := ⟨hw.base, hsep⟩
    have hst1 := hst0.alloc (o := .deferred (some []))
    have hst2 := hst1.alloc (o := .loop (recL fn a.tmps ps assign body w.heap.size))
    have hsz : (w.alloc (.deferred (some []))).heap.size = w.heap.size + 1 := by simp
    rw [hsz] at hst2
    have hst3 : St w0 M _ ((recC (w.heap.size + 1) (recL fn a.tmps ps assign body w.heap.size) :: A) ++ defD w.heap.size :: R) := ⟨hst2.base, by
      obtain ⟨h1, h2, h3, h4⟩ := hst2.sep
      refine ⟨h1, h2, fun x hx => h3 x ?_, Sep.sink h4⟩
      rcases List.mem_append.1 hx with hx | hx
      · simp [hx]
      · rcases List.mem_cons.1 hx with rfl | hx
        · exact List.mem_cons.2 (.inl rfl)
        · simp [hx]⟩
    have hc := hcall (w.heap.size + 1) w.heap.size fn a.tmps ⟨rfl, ha.size, ha.get⟩
    obtain ⟨fnd, c, hfn, hbody, hname⟩ := hc.called
    have hname' : ¬ fnd.name = "runtime.NumGoroutine" := by simpa using hname
    have hcalls := hst3.calls (is := List.replicate (A.length + 1) 0) hc (picks_front (_ :: A) (_ :: R)) trivial (by
      intro x
      cases x with
      | inl s => simp only [Sum.elim_inl, allW, recC, Chunk.wr]; exact hoN s
      | inr t => simp only [Sum.elim_inr, allW, recC, Chunk.wr]; exact hoX t)
    refine ⟨w.heap.size + 1, [markD w.heap.size], (w.alloc (.deferred (some []))).alloc (.loop (recL fn a.tmps ps assign body w.heap.size)), { target := .fn (.func gf) cap, args := first ++ #[Value.func (.yield (w.heap.size + 1)) #[] #[]] }, (w.alloc (.deferred (some []))).alloc (.loop (recL fn a.tmps ps assign body w.heap.size)), gf, (first.toList ++ [Value.func (.yield (w.heap.size + 1)) #[] #[]] ++ cap.toList).toArray, (w.alloc (.deferred (some []))).alloc (.loop (recL fn a.tmps ps assign body w.heap.size)), run_enterLoop_outer fn a.tmps ps assign body, ?_, fun _ _ => trivial, ?_, fun h => (by cases h), ?_⟩
    · have hev := ha.eval hg
      simp only [resolve, rangeCall, hev]
      simp [Deferred.ofValue, Act.eval]
    · simp [invoke, callFunc, program, Sem.run, hfn, hbody, hname']
    · refine calls_fw (hcalls.mono fun e w3 hret => ?_)
      obtain ⟨x, rfl, hst, hphi⟩ := hret
      have hact : ∀ D, EnvOk { tmps := a.tmps, defers := markD D :: a.defers } E ⟨n.m, markD D :: n.ds, none⟩ := fun D => ⟨by show markD D :: a.defers = _; rw [ha.defers], ha.size, ha.get⟩
      cases x with
      | inl s =>
        have hb : w3.heap[w.heap.size + 1]? = some (.loop (recL fn a.tmps ps assign body w.heap.size)) := hst.head
        refine ⟨none, _, run_endLoop hb (by simp [recL]), ?_⟩
        have hlt : w.heap.size + 1 < w3.heap.size := (Array.getElem?_eq_some_iff.1 hb).1
        have hst' := (hst.turn (w' := w3.putObj (w.heap.size + 1) (.loop { recL fn a.tmps ps assign body w.heap.size with state := .exhausted })) (c' := recC (w.heap.size + 1) { recL fn a.tmps ps assign body w.heap.size with state := .exhausted }) rfl ⟨rfl, rfl, rfl, by simp, fun k _ hk => World.putObj_heap_other hk⟩ (World.putObj_heap_same hlt) (fun k hk => .inl hk)).drop
        exact (hnorm w.heap.size s hphi _ hst').run q _ (hact w.heap.size)
      | inr t =>
        have hb : w3.heap[w.heap.size + 1]? = some (.loop { recL fn a.tmps ps assign body w.heap.size with state := .done, pending := some (jump t) }) := hst.head
        refine ⟨some (jump t), _, run_endLoop hb (by simp), ?_⟩
        have hlt : w.heap.size + 1 < w3.heap.size := (Array.getElem?_eq_some_iff.1 hb).1
        have hst' := (hst.turn (w' := w3.putObj (w.heap.size + 1) (.loop { recL fn a.tmps ps assign body w.heap.size with state := .exhausted, pending := some (jump t) })) (c' := recC (w.heap.size + 1) { recL fn a.tmps ps assign body w.heap.size with state := .exhausted, pending := some (jump t) }) rfl ⟨rfl, rfl, rfl, by simp, fun k _ hk => World.putObj_heap_other hk⟩ (World.putObj_heap_same hlt) (fun k hk => .inl hk)).drop
        exact (hjump w.heap.size t hphi _ hst').run q _ (hact w.heap.size)⟩
where
  picks_front : ∀ (A R : List Chunk), picks (List.replicate A.length 0) (A ++ R) = some (A, R)
    | [], R => rfl
    | c :: A, R => by simp only [List.length_cons, List.replicate_succ, List.cons_append, picks, Sx.pick, picks_front A R]
/-- Into a function that holds a range over a function, and out of it. -/
theorem fn_introM {α : Type} {f : FuncId} {fn : Func} {c : Code} {args : List Value} {A B : List Chunk} {val : α → Value} {out : α → List Chunk} {Φ : α → Prop} {m : Nat} (hf : P.funcs[f]? = some fn) (hm : fn.ntmps = m) (hb : fn.body = some c) (hname : (fn.name == "runtime.NumGoroutine") = false) (hle : Nat.ble args.length m = true)
    (h : ∀ w0, Wd w0 (ownsW A) (A ++ B) (XC P ⟨m, [], none⟩ (bodyM P fn (Ret w0 A val out Φ)) (Env.ofArgs 0 args) c)) : FnC P f args A B val out Φ :=
  ⟨⟨fn, c, hf, hb, hname⟩, fun w hw => by
    refine (callsIn_wide (n := 0)).1 ?_
    have h1 := (h w w hw).run qok_bodyM _ (by rw [← hm] at hle ⊢; exact envOk_enter hle)
    refine callsIn_of_wp_marks (F := FW none) hf hb trivial ?_ rfl
    rw [hm] at *
    refine wpIn_mono h1 (fun e a w hq => ?_)
    cases e <;> first | exact hq | exact hq.elim⟩
section
variable {α : Type} {A R : List Chunk} {val : α → Value} {out : α → List Chunk} {Φ : α → Prop} {fn : Func} {e : Exit} {rs : List ResultVar} {vs : List Value}
theorem w_endM0 (x : α) (is : List Nat) (hds : n.ds = []) (he : e = .ret ∨ e = .normal) (hf : fn.results = rs.toArray) (hr : ResOk P n H E rs vs) (hv : packR vs = val x) (hp : picks is H = some (out x, R)) (hx : Φ x) :
    Wd w0 (ownsW A) H (XQ n (bodyM P fn (Ret w0 A val out Φ)) e E) := fun w hw =>
  ⟨fun _ a ha => by
    have hres := res_results hf hr ha hw.sc
    have hd : a.defers = [] := ha.defers.trans hds
    rcases he with rfl | rfl
    · show LeavesInM (FW none) 0 P fn a.tmps _ a.defers .returning w
      rw [hd]
      exact ⟨_, hres, x, by rw [hv], hw.sub is hp, hx⟩
    · show LeavesInM (FW none) 0 P fn a.tmps _ a.defers .returning w
      rw [hd]
      exact ⟨_, hres, x, by rw [hv], hw.sub is hp, hx⟩⟩
/-- Behind one range. -/
theorem w_endM1 {D i : Nat} {H1 : List Chunk} (x : α) (is : List Nat) (hds : n.ds = [markD D]) (hp0 : Sx.pick H i = some (defD D, H1)) (he : e = .ret ∨ e = .normal) (hf : fn.results = rs.toArray) (hr : ResOk P n H1 E rs vs) (hv : packR vs = val x) (hp : picks is H1 = some (out x, R)) (hx : Φ x) :
    Wd w0 (ownsW A) H (XQ n (bodyM P fn (Ret w0 A val out Φ)) e E) := fun w hw =>
  ⟨fun _ a ha => by
    have hw1 := hw.pick i hp0
    have hb : w.heap[D]? = some (.deferred (some [])) := hw1.head
    have hlt : D < w.heap.size := (Array.getElem?_eq_some_iff.1 hb).1
    have hd : a.defers = [markD D] := ha.defers.trans hds
    have hw2 : St w0 (ownsW A) (w.putObj D (.deferred none)) H1 := (hw1.turn (w' := w.putObj D (.deferred none)) (c' := obj D (.deferred none)) rfl ⟨rfl, rfl, rfl, by simp, fun k _ hk => World.putObj_heap_other hk⟩ (World.putObj_heap_same hlt) (fun k hk => .inl hk)).drop
    have hres := res_results hf hr ha hw2.sc
    have key : LeavesInM (FW none) 0 P fn a.tmps (Ret w0 A val out Φ) a.defers .returning w := by
      rw [hd]
      refine ⟨by simp, .inl ⟨D, _, rfl, run_takeDeferred hb, ?_⟩⟩
      exact ⟨_, hres, x, by rw [hv], hw2.sub is hp, hx⟩
    rcases he with rfl | rfl
    · exact key
    · exact key⟩
end
end
end Go.Sx

/- The fixed answer; any objects are joined as the document says. -/
import Derived.Test.YtmaepdebbijkiaaLk10
import Derived.Test.YtmaepdebbijkiaaAg1
namespace Go.Proofs.Ytmaepdebbijkiaa
open Go Go.Sx Go.Sx.Chunk
set_option linter.unusedVariables false
set_option linter.unusedSimpArgs false

def jmp0 : In := ⟨17, 0, 0, 0, 0⟩
def awA (b7 : Nat) : Ob := ⟨"a".toUTF8, some ⟨b7, 0, none⟩, 1, [jmp0], 2, none, 0, [], none, 0, [], none, 0, []⟩
def awB (b7 b13 : Nat) : Ob := ⟨"b".toUTF8, some ⟨b7, 0, none⟩, 1, [jmp0], 0, none, 0, [], none, 0, [], some ⟨b13, 0, none⟩, 1, [⟨0, 0, 0⟩]⟩
theorem awL (b7 b13 : Nat) : linkF [awA b7, awB b7 b13] 5 = ([jmp0, ⟨17, 0, 0, 0, 1⟩], 2, 0) := by
  rw [← linkF_canon]
  show linkF [canon (awA 0), canon (awB 0 0)] 5 = _
  decide +kernel
theorem awN : linkF [] 5 = ([], 0, 1) := by decide +kernel
theorem linkF_len (l : List Ob) (mem : Int) : (linkF l mem).1.length ≤ 4096 := by
  have hp : ∀ (ps : List Pa) (b : Ba) (sy : List Sym) (all mem : Int) (imps : List ByteArray) (code : List In), (patsF b sy all mem imps code ps).2.length = code.length := by
    intro ps
    induction ps with
    | nil => intros; rfl
    | cons p ps ih =>
      intro b sy all mem imps code
      rw [patsF_cons]
      split
      · rw [ih, patchF_len]
      · exact patchF_len ..
  have ho : ∀ (zs : List (Ba × Ob)) (sy : List Sym) (all mem : Int) (code : List In), (objsF sy all mem code zs).2.length = code.length := by
    intro zs
    induction zs with
    | nil => intros; rfl
    | cons z zs ih =>
      intro sy all mem code
      rw [objsF_cons]
      split
      · rw [ih, hp]
      · exact hp ..
  unfold linkF
  split
  · simp
  · split
    · simp
    · split
      · simp
      · dsimp only
        split
        · dsimp only
          rw [ho]
          omega
        · simp
theorem szA : "a".toUTF8.size ≤ maxLen := by decide +kernel
theorem szB : "b".toUTF8.size ≤ maxLen := by decide +kernel
theorem small_ok (s : String) (h : s.toUTF8.size ≤ 100) : s.toUTF8.size ≤ maxLen := Nat.le_trans h (by decide)
set_option maxHeartbeats 1000000 in
theorem awakeC : FnC (α := Unit) Try.prog 10 [] [] [] (fun _ => .bool true) (fun _ => []) (fun _ => True) := by
  refine fn_intro Try.func10 Try.ntmps10 rfl rfl rfl (fun w0 => ?_)
  try simp only [List.cons_append, List.nil_append, List.append_nil]
  refine rr ?_
  intro b7 _
  refine rr ?_
  intro b13 _
  refine rr ?_
  intro b15 _
  refine rr ?_
  have hok : ∀ o ∈ [awA b7, awB b7 b13], OkOb o := by
    intro o ho
    simp only [List.mem_cons, List.not_mem_nil, or_false] at ho
    rcases ho with rfl | rfl
    · exact ⟨szA, Nat.le_of_ble_eq_true rfl, Nat.le_of_ble_eq_true rfl, Nat.le_of_ble_eq_true rfl, Nat.le_of_ble_eq_true rfl, fun x hx => (by cases hx), fun x hx => (by cases hx)⟩
    · exact ⟨szB, Nat.le_of_ble_eq_true rfl, Nat.le_of_ble_eq_true rfl, Nat.le_of_ble_eq_true rfl, Nat.le_of_ble_eq_true rfl, fun x hx => (by cases hx), fun x hx => (by cases hx)⟩
  have hc := linkC (some ⟨b15, 0, none⟩) 2 [awA b7, awB b7 b13] 5 (Nat.le_of_ble_eq_true rfl) hok
  rw [awL] at hc
  refine cl hc ?_ (hl := ?_)
  · rintro ⟨xa, xc⟩ hx
    simp only [List.cons_append, List.nil_append, List.append_nil]
    refine w_use (fun w hw => (hw.pick 0 rfl).row_some (by first | omega | decide | (simp; done) | (simp <;> omega))) ?_
    rintro ⟨gx, rfl⟩
    refine rr ?_
    intro b2 _
    refine rr ?_
    have hc2 := linkC none 0 [] 5 (by decide) (fun o ho => by cases ho)
    rw [awN] at hc2
    refine cl hc2 ?_ (hl := ?_)
    · intro y hy
      simp only [List.cons_append, List.nil_append, List.append_nil]
      refine rr ?_
      intro b4 _
      refine rr ?_
      exact en () trivial
    · exact lend_nil (lend_prov rfl (prov_see (fun c hc => by cases hc)) trivial)
  · refine lend_blk (k := 0) rfl (lend_prov rfl (prov_see (fun c hc => ?_)) trivial)
    simp only [List.flatMap_cons, List.flatMap_nil, List.append_nil, obS, List.mem_append, List.mem_cons, List.not_mem_nil, or_false] at hc
    rcases hc with (rfl | rfl | rfl | rfl) | (rfl | rfl | rfl | rfl)
    all_goals first
      | exact rng_nil
      | exact blk_rng.one (prov_mem (nthC_mem (i := 1) rfl))
      | exact blk_rng.one (prov_mem (nthC_mem (i := 2) rfl))
set_option maxHeartbeats 1000000 in
theorem joins_law (a : Option Addr) (c : Nat) (l : List Ob) (mem : Int) (hok : ∀ o ∈ l, OkOb o) :
    FnC (α := Unit) Try.prog 3 [.slice a l.length c, .int .i64 mem] [] [rng a (obC l), seeO l] (fun _ => .bool true) (fun _ => []) (fun _ => True) := by
  refine fn_intro Try.func3 Try.ntmps3 rfl rfl rfl (fun w0 => ?_)
  try simp only [List.cons_append, List.nil_append, List.append_nil]
  refine rr ?_
  refine cl (refsC a c l hok) ?_ (ho := refW)
  rintro r ⟨hr1, hr2, hr3⟩
  cases hrk : r.ok with
  | false =>
    unfold refH
    rw [hrk]
    simp only [if_false, Bool.false_eq_true, List.nil_append]
    refine rr ?_
    refine cl (awakeC) ?_
    intro x hx
    try simp only [List.cons_append, List.nil_append, List.append_nil]
    refine rr ?_
    exact en () trivial
  | true =>
    have hcan := hr2 hrk
    have hln := canon_len hcan
    have h6 : l.length ≤ 6 := by
      rw [hrk] at hr1
      have := hr1.symm
      simp at this
      exact this.1
    unfold refH
    rw [hrk, ← hln]
    simp only [if_true, List.cons_append, List.nil_append]
    refine rr ?_
    have hc := linkC a c l mem (by omega) hok
    rw [hln]
    refine cl (hc) ?_
    intro x _
    try simp only [List.cons_append, List.nil_append, List.append_nil]
    unfold linkV
    refine rr ?_
    intro b7 _
    refine rr ?_
    have hok' : ∀ o ∈ r.l, OkOb o := fun o ho => by
      have : canon o ∈ r.l.map canon := List.mem_map.2 ⟨o, ho, rfl⟩
      rw [hcan] at this
      obtain ⟨o2, ho2, he⟩ := List.mem_map.1 this
      have h2 := hok o2 ho2
      have hn : o2.name = o.name := show (canon o2).name = (canon o).name by rw [he]
      have h3 : o2.code = o.code := show (canon o2).code = (canon o).code by rw [he]
      have h4 : o2.exps = o.exps := show (canon o2).exps = (canon o).exps by rw [he]
      have h5 : o2.imps = o.imps := show (canon o2).imps = (canon o).imps by rw [he]
      have h7 : o2.pats = o.pats := show (canon o2).pats = (canon o).pats by rw [he]
      exact ⟨hn ▸ h2.name, h3 ▸ h2.code, h4 ▸ h2.exps, h5 ▸ h2.imps, h7 ▸ h2.pats, h4 ▸ h2.ens, h5 ▸ h2.ins⟩
    have hc2 := link15C r.oa r.oc r.l mem (by omega) hok'
    rw [hln, linkF_same hcan] at hc2
    have hlen2 : (linkF l mem).1.length ≤ 8796093021952 := Nat.le_trans (linkF_len l mem) (by decide)
    refine cl hc2 ?_ (hl := ?_)
    · intro y hy
      simp only [List.cons_append, List.nil_append, List.append_nil]
      unfold linkW
      refine rr ?_
      refine cl (sameC x.1 y.1 x.2 y.2 (linkF l mem).1 (linkF l mem).1 hlen2 hlen2) ?_
      intro _ _
      try simp only [List.cons_append, List.nil_append, List.append_nil]
      refine rr ?_
      refine cl (awakeC) ?_
      intro _ _
      try simp only [List.cons_append, List.nil_append, List.append_nil]
      refine rr ?_
      exact en () trivial
    · refine lend_row (k := 2) rfl (lend_prov rfl (prov_see (fun c hc => ?_)) trivial)
      refine (hr3 c hc).trans (fun x hx => ?_)
      simp only [List.mem_cons, List.not_mem_nil, or_false] at hx
      rcases hx with rfl | rfl
      · exact prov_mem (nthC_mem (i := 3) rfl)
      · exact prov_mem (nthC_mem (i := 5) rfl)
end Go.Proofs.Ytmaepdebbijkiaa

/- Small. -/
import Derived.Test.YtgmegfmabkkaoaaPl1
namespace Go.Proofs.Ytgmegfmabkkaoaa
open Go Go.Sx Go.Sx.Chunk
set_option linter.unusedVariables false
set_option linter.unusedSimpArgs false

/-- Is an object short? -/
def smallF (o : Ob) : Bool := decide (o.name.size ≤ 100) && (decide (o.code.length ≤ 200) && (decide (o.exps.length ≤ 60) && (decide (o.imps.length ≤ 60) && (decide (o.pats.length ≤ 200) && (((o.exps.take 60).all fun x => decide (x.name.size ≤ 100)) && ((o.imps.take 60).all fun x => decide (x.size ≤ 100)))))))
theorem all_bad60 {α : Type} {p : α → Bool} {l : List α} {i : Nat} {a : α} (h : l[i]? = some a) (hi : i < 60) (hp : p a = false) : (l.take 60).all p = false :=
  all_bad (i := i) (by rw [List.getElem?_take, if_pos hi, h]) hp
theorem take60 {α : Type} {p : α → Bool} {l : List α} {i : Nat} (h : ¬ (i < l.length ∧ i < 60)) (hi : i ≤ l.length) (hp : (l.take i).all p = true) : (l.take 60).all p = true := by
  by_cases h60 : i < 60
  · have : i = l.length := by omega
    subst this
    rw [List.take_length] at hp
    rw [List.take_of_length_le (by omega)]
    exact hp
  · rw [List.all_eq_true] at hp ⊢
    intro x hx
    refine hp x ?_
    have : l.take 60 = (l.take i).take 60 := by rw [List.take_take, Nat.min_eq_left (by omega)]
    rw [this] at hx
    exact List.mem_of_mem_take hx
set_option maxHeartbeats 2000000 in
theorem smallC (o : Ob) (hok : OkOb o) : FnC (α := Unit) Try.prog 10 [obG o] [] [rng o.ea (syC o.exps), rng o.ia (strC o.imps)] (fun _ => .bool (smallF o)) (fun _ => []) (fun _ => True) := by
  have h1 := hok.exps
  have h2 := hok.imps
  have h3 := hok.name
  have h4 := hok.code
  have h5 := hok.pats
  have hm : maxLen = 9223372036854775807 := rfl
  obtain ⟨onm, oca, occ, ocode, odata, oea, oec, oexps, oia, oic, oimps, opa, opc, opats⟩ := o
  unfold obG
  dsimp only at h1 h2 h3 h4 h5 ⊢
  refine fn_intro Try.func10 Try.ntmps10 rfl rfl rfl (fun w0 => ?_)
  try simp only [List.cons_append, List.nil_append, List.append_nil]
  refine rr ?_
  intro b1 _
  refine rr ?_
  refine lo [1] (fun k : Nat => [(3, .int .i64 (k : Int))]) (fun k => []) (fun k => k ≤ oexps.length ∧ k ≤ 60 ∧ (oexps.take k).all (fun x => decide (x.name.size ≤ 100)) = true) (fun k => oexps.length - k) 0 ⟨by omega, by omega, by simp⟩ ?_
  rintro k ⟨hk, hk6, hall⟩ K1 hK1
  by_cases hc : k < oexps.length ∧ k < 60
  · obtain ⟨hlt, hl6⟩ := hc
    obtain ⟨x, hx⟩ := some_at hlt
    have hxn := hok.ens x (List.mem_of_getElem? hx)
    have hsl := syC_len oexps
    have hx0 : (syC oexps)[(k : Int).toNat * 2 + 0]? = some (.string x.name) := syC_at hx 0 (by decide) _ (by omega)
    refine rr ?_
    by_cases hs : 100 < x.name.size
    · refine rr ?_
      refine en () trivial (hv := ?_)
      unfold smallF
      dsimp only
      rw [all_bad60 hx hl6 (by simp; omega)]
      simp [packR]
    · refine rr ?_
      exact ro hK1 (k + 1) ⟨by omega, by omega, all_take hx (by simp; omega) hall⟩
  · have hE := take60 hc hk hall
    have hgo : ∀ (G : Prop), ((k < oexps.length → G) ∧ (¬ k < oexps.length → G)) → G := fun G h => by by_cases hh : k < oexps.length; exact h.1 hh; exact h.2 hh
    refine hgo _ ⟨fun hlt => ?_, fun hlt => ?_⟩
    all_goals
      refine rr ?_
      refine lo [1] (fun k : Nat => [(4, .int .i64 (k : Int))]) (fun k => []) (fun k => k ≤ oimps.length ∧ k ≤ 60 ∧ (oimps.take k).all (fun x => decide (x.size ≤ 100)) = true) (fun k => oimps.length - k) 0 ⟨by omega, by omega, by simp⟩ ?_
      rintro i ⟨hi, hi6, hall2⟩ K2 hK2
      by_cases hc2 : i < oimps.length ∧ i < 60
      · obtain ⟨hil, hi60⟩ := hc2
        obtain ⟨x, hx⟩ := some_at hil
        have hxn := hok.ins x (List.mem_of_getElem? hx)
        have hsl := strC_len oimps
        have hx0 : (strC oimps)[(i : Int).toNat * 1]? = some (.string x) := by rw [Nat.mul_one]; exact strC_at hx
        refine rr ?_
        by_cases hs : 100 < x.size
        · refine rr ?_
          refine en () trivial (hv := ?_)
          unfold smallF
          dsimp only
          rw [all_bad60 hx hi60 (by simp; omega)]
          simp [packR]
        · refine rr ?_
          exact ro hK2 (i + 1) ⟨by omega, by omega, all_take hx (by simp; omega) hall2⟩
      · have hI := take60 hc2 hi hall2
        have hgo2 : ∀ (G : Prop), ((i < oimps.length → G) ∧ (¬ i < oimps.length → G)) → G := fun G h => by by_cases hh : i < oimps.length; exact h.1 hh; exact h.2 hh
        refine hgo2 _ ⟨fun hlt2 => ?_, fun hlt2 => ?_⟩
        all_goals
          unfold smallF
          dsimp only
          rw [hE, hI]
          simp only [Bool.and_true]
          by_cases g1 : onm.size ≤ 100
          · by_cases g2 : ocode.length ≤ 200
            · by_cases g3 : oexps.length ≤ 60
              · by_cases g4 : oimps.length ≤ 60
                all_goals first
                  | (exfalso; omega; done)
                  | (refine rr ?_
                     refine en () trivial (hv := ?_)
                     simp [packR, g1, g2, g3, g4]
                     done)
                  | (refine rr ?_
                     refine en () trivial (hv := ?_)
                     simp [packR, g1, g2, g3, g4]
                     omega)
              · first
                | (exfalso; omega; done)
                | (refine rr ?_
                   refine en () trivial (hv := ?_)
                   simp [packR, g1, g2, g3])
            · refine rr ?_
              refine en () trivial (hv := ?_)
              simp [packR, g1, g2]
          · refine rr ?_
            refine en () trivial (hv := ?_)
            simp [packR, g1]
end Go.Proofs.Ytgmegfmabkkaoaa

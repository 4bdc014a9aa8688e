/- Names twice: in plain words; the reference's twice, Small, same. -/
import Derived.Test.YtmaepdebbijkiaaLk7
namespace Go.Proofs.Ytmaepdebbijkiaa
open Go Go.Sx Go.Sx.Chunk
set_option linter.unusedVariables false
set_option linter.unusedSimpArgs false

def cntF (v : ByteArray) : List Sym → Nat
  | [] => 0
  | s :: l => (if s.1 = v then 1 else 0) + cntF v l
theorem cntF_app (v : ByteArray) : ∀ a b, cntF v (a ++ b) = cntF v a + cntF v b
  | [], b => by simp [cntF]
  | s :: a, b => by simp only [List.cons_append, cntF, cntF_app v a b]; omega
theorem plF_cnt (v : ByteArray) : ∀ (l : List Sym) (r : Int × Int), (plF v l r).2 = r.2 + cntF v l
  | [], r => by simp [plF, cntF]
  | s :: l, r => by
    simp only [plF, cntF, plF_cnt v l]
    split <;> simp <;> omega
theorem plF_none {v : ByteArray} : ∀ {l : List Sym} {r : Int × Int}, cntF v l = 0 → plF v l r = r
  | [], r, _ => rfl
  | s :: l, r, h => by
    simp only [cntF] at h
    have h1 : ¬ s.1 = v := fun e => by rw [if_pos e] at h; omega
    simp only [plF, if_neg h1]
    exact plF_none (by omega)
theorem symF_none {v : ByteArray} : ∀ {l : List Sym}, symF v l = none ↔ cntF v l = 0
  | [] => by simp [symF, cntF]
  | s :: l => by
    simp only [symF, cntF]
    by_cases h : s.1 = v
    · simp [h]
    · simp [h, symF_none (v := v) (l := l)]
theorem plF_sym {v : ByteArray} : ∀ {l : List Sym} {r : Int × Int} {n : Int}, cntF v l ≤ 1 → symF v l = some n → plF v l r = (n, r.2 + 1)
  | [], r, n, _, h => by simp [symF] at h
  | s :: l, r, n, hc, h => by
    simp only [symF, cntF, plF] at h hc ⊢
    by_cases hs : s.1 = v
    · rw [if_pos hs] at h hc
      simp only [Option.some.injEq] at h
      rw [if_pos hs, plF_none (by omega), h]
    · rw [if_neg hs] at h hc
      rw [if_neg hs]
      exact plF_sym (by omega) h
def distF : List Sym → List Sym → Bool
  | _, [] => true
  | s, x :: l => (symF x.1 s).isNone && distF (s ++ [x]) l
theorem distF_app : ∀ (a b s : List Sym), distF s (a ++ b) = (distF s a && distF (s ++ a) b)
  | [], b, s => by simp [distF]
  | x :: a, b, s => by simp [distF, distF_app a b, Bool.and_assoc]
theorem dist_le : ∀ {l s : List Sym}, distF s l = true → (∀ v, cntF v s ≤ 1) → ∀ v, cntF v (s ++ l) ≤ 1
  | [], s, _, h, v => by simpa using h v
  | x :: l, s, hd, h, v => by
    simp only [distF, Bool.and_eq_true, Option.isNone_iff_eq_none] at hd
    have h0 := symF_none.1 hd.1
    have := dist_le hd.2 (fun u => by
      rw [cntF_app]
      simp only [cntF]
      by_cases hu : x.1 = u
      · subst hu; simp [h0]
      · rw [if_neg hu]; have := h u; omega) v
    simpa using this
theorem dist_gt : ∀ {l s : List Sym}, distF s l = false → ∃ x ∈ l, 1 < cntF x.1 (s ++ l)
  | [], s, hd => by simp [distF] at hd
  | x :: l, s, hd => by
    simp only [distF, Bool.and_eq_false_iff] at hd
    rcases hd with hd | hd
    · refine ⟨x, by simp, ?_⟩
      rw [cntF_app]
      have : cntF x.1 s ≠ 0 := fun e => by
        rw [symF_none.2 e] at hd; cases hd
      simp only [cntF, if_true]
      omega
    · obtain ⟨y, hy, hc⟩ := dist_gt hd
      exact ⟨y, by simp [hy], by simpa using hc⟩
def chkN : List ByteArray → List Ob → Bool
  | _, [] => true
  | seen, o :: l => !inL o.name seen && chkN (seen ++ [o.name]) l
theorem expsF_eq (at_ : Int) : ∀ (l : List Sy) (s : List Sym), expsF at_ s l = if distF s (l.map fun x => (x.name, at_ + x.pl)) then some (s ++ l.map fun x => (x.name, at_ + x.pl)) else none
  | [], s => by simp [expsF, distF]
  | x :: l, s => by
    simp only [expsF, List.map_cons, distF]
    cases h : symF x.name s with
    | some y => simp
    | none => simp [expsF_eq at_ l]
theorem namesF_eq : ∀ (l : List Ob) (seen : List ByteArray) (s : List Sym) (at_ : Int), namesF seen s at_ l = if chkN seen l && distF s (symsF at_ l) then some (s ++ symsF at_ l) else none
  | [], seen, s, at_ => by simp [namesF, chkN, distF, symsF]
  | o :: l, seen, s, at_ => by
    simp only [namesF, chkN, symsF, distF_app]
    cases h : inL o.name seen with
    | true => simp
    | false =>
      rw [expsF_eq]
      show (if _ then _ else _) = _
      unfold symsO
      cases h2 : distF s (o.exps.map fun x => (x.name, at_ + x.pl)) with
      | false => simp
      | true => simp [namesF_eq l]
theorem symsF_mem : ∀ {l : List Ob} {m : Int} {s : Sym}, s ∈ symsF m l → ∃ o ∈ l, ∃ x ∈ o.exps, x.name = s.1
  | [], m, s, h => by simp [symsF] at h
  | o :: l, m, s, h => by
    simp only [symsF, List.mem_append, symsO, List.mem_map] at h
    rcases h with ⟨x, hx, rfl⟩ | h
    · exact ⟨o, by simp, x, hx, rfl⟩
    · obtain ⟨o', ho, x, hx, e⟩ := symsF_mem h
      exact ⟨o', by simp [ho], x, hx, e⟩
/-- What the reference asks of each object in turn. -/
def twG (all : List Sym) : List ByteArray → List Ob → Bool
  | _, [] => false
  | seen, o :: l => inL o.name seen || (o.exps.any (fun x => decide (1 < (plF x.name all (0, 0)).2)) || twG all (seen ++ [o.name]) l)
theorem twG_eq (all : List Sym) : ∀ (l : List Ob) (seen : List ByteArray), twG all seen l = (!chkN seen l || l.any (fun o => o.exps.any (fun x => decide (1 < (plF x.name all (0, 0)).2))))
  | [], seen => by simp [twG, chkN]
  | o :: l, seen => by
    simp only [twG, chkN, List.any_cons, twG_eq all l]
    cases inL o.name seen <;> cases chkN (seen ++ [o.name]) l <;> cases (o.exps.any (fun x => decide (1 < (plF x.name all (0, 0)).2))) <;> simp
theorem twG_names (l : List Ob) : twG (symsF 0 l) [] l = (namesF [] [] 0 l).isNone := by
  rw [twG_eq, namesF_eq, List.nil_append]
  cases hc : chkN [] l with
  | false => simp
  | true =>
    cases hd : distF [] (symsF 0 l) with
    | true =>
      have := dist_le hd (fun v => by simp [cntF])
      simp only [List.nil_append] at this
      simp
      intro o ho x hx
      rw [plF_cnt]
      have := this x.name
      show (0 : Int) + _ ≤ 1
      omega
    | false =>
      obtain ⟨s, hs, h1⟩ := dist_gt hd
      rw [List.nil_append] at h1
      obtain ⟨o, ho, x, hx, e⟩ := symsF_mem hs
      simp
      refine ⟨o, ho, x, hx, ?_⟩
      rw [plF_cnt, e]
      show 1 < (0 : Int) + _
      omega
theorem names_pl {l : List Ob} {syms : List Sym} (h : namesF [] [] 0 l = some syms) (v : ByteArray) : plF v (symsF 0 l) (0, 0) = match symF v syms with | none => (0, 0) | some n => (n, 1) := by
  rw [namesF_eq, List.nil_append] at h
  split at h
  · rename_i hc
    simp only [Option.some.injEq] at h
    subst h
    simp only [Bool.and_eq_true] at hc
    have := dist_le hc.2 (fun v => by simp [cntF]) v
    rw [List.nil_append] at this
    cases hs : symF v (symsF 0 l) with
    | none => exact plF_none (symF_none.1 hs)
    | some n => rw [plF_sym this hs]; rfl
  · cases h

theorem inL_any {v : ByteArray} {l : List Ob} {k j : Nat} {o : Ob} (h : l[j]? = some o) (hj : j < k) (he : o.name = v) : inL v ((l.take k).map Ob.name) = true := by
  unfold inL
  rw [List.any_map, List.any_eq_true]
  refine ⟨o, ?_, by simp [he]⟩
  exact List.mem_of_getElem? (i := j) (by rw [List.getElem?_take, if_pos hj, h])
theorem inL_snoc {v : ByteArray} {l : List Ob} {j : Nat} {o : Ob} (h : l[j]? = some o) : inL v ((l.take (j + 1)).map Ob.name) = (inL v ((l.take j).map Ob.name) || decide (o.name = v)) := by
  rw [take_snoc h]
  simp [inL, List.any_map]
theorem twG_step {all : List Sym} {seen : List ByteArray} {l : List Ob} {k : Nat} {o : Ob} (h : l[k]? = some o) : twG all seen (l.drop k) = (inL o.name seen || (o.exps.any (fun x => decide (1 < (plF x.name all (0, 0)).2)) || twG all (seen ++ [o.name]) (l.drop (k + 1)))) := by
  obtain ⟨hi, hb⟩ := List.getElem?_eq_some_iff.1 h
  rw [List.drop_eq_getElem_cons hi, hb]
  rfl
set_option maxHeartbeats 2000000 in
theorem twiceC (a : Option Addr) (c : Nat) (l : List Ob) (hg : GoB l) :
    FnC (α := Unit) Try.prog 22 [.slice a l.length c] [] [rng a (obC l), seeO l] (fun _ => .bool (twG (symsF 0 l) [] l)) (fun _ => []) (fun _ => True) := by
  have hl := hg.len
  refine fn_intro Try.func22 Try.ntmps22 rfl rfl rfl (fun w0 => ?_)
  try simp only [List.cons_append, List.nil_append, List.append_nil]
  refine rr ?_
  refine lo [0] (fun k : Nat => [(3, .int .i64 (k : Int))]) (fun k => []) (fun k => k ≤ l.length ∧ twG (symsF 0 l) [] l = twG (symsF 0 l) ((l.take k).map Ob.name) (l.drop k)) (fun k => l.length - k) 0 ⟨by omega, by simp⟩ ?_
  rintro k ⟨hk, ht⟩ K1 hK1
  have hlen := obC_len l
  by_cases hlt : k < l.length
  · obtain ⟨o, he⟩ := some_at (l := l) (k := k) (by omega)
    have hmem := List.mem_of_getElem? he
    rw [twG_step he] at ht
    have he0 : (obC l)[(k : Int).toNat * 6 + 0]? = some (.string o.name) := obC_at he 0 (by decide) _ (by omega)
    have he3 : (obC l)[(k : Int).toNat * 6 + 3]? = some (.slice o.ea o.exps.length o.ec) := obC_at he 3 (by decide) _ (by omega)
    refine rr ?_
    refine lo [0, 3] (fun j : Nat => [(4, .int .i64 (j : Int))]) (fun k => []) (fun j => j ≤ k ∧ inL o.name ((l.take j).map Ob.name) = false) (fun j => k - j) 0 ⟨by omega, rfl⟩ ?_
    rintro j ⟨hj, hin⟩ K2 hK2
    by_cases hjk : j < k
    · obtain ⟨o2, he2⟩ := some_at (l := l) (k := j) (by omega)
      have he20 : (obC l)[(j : Int).toNat * 6 + 0]? = some (.string o2.name) := obC_at he2 0 (by decide) _ (by omega)
      refine rr ?_
      refine dx [0, 1, 2, 3, 4, 5, 6, 7, 8, 9, 10] [4, 9] [] ?_
      refine rr ?_
      by_cases hn : o2.name = o.name
      · refine rr ?_
        refine en () trivial (hv := ?_)
        rw [ht, inL_any he2 hjk hn]
        rfl
      · refine rr ?_
        refine ro hK2 (j + 1) ⟨by omega, ?_⟩
        rw [inL_snoc he2, hin]
        simp [hn]
    · obtain rfl : j = k := by omega
      rw [hin] at ht
      refine rr ?_
      refine w_turn (fun w hw => look_ex hw (k := 1) rfl hmem) ?_
      have h3 := (hg.ok o hmem).exps
      refine lo [0, 3, 35, 36] (fun i : Nat => [(37, .int .i64 (i : Int))]) (fun i => []) (fun i => i ≤ o.exps.length ∧ (o.exps.take i).any (fun x => decide (1 < (plF x.name (symsF 0 l) (0, 0)).2)) = false) (fun i => o.exps.length - i) 0 ⟨by omega, by simp⟩ ?_
      rintro i ⟨hi, hany⟩ K3 hK3
      by_cases hil : i < o.exps.length
      · obtain ⟨x, hx⟩ := some_at hil
        have hxA : ((syC o.exps).drop ((i : Int).toNat * 2)).take 2 = [.string x.name, .int .i64 x.pl] := syC_all hx _ (by omega)
        have hxL := syC_len o.exps
        refine rr ?_
        intro b12 _
        refine rr ?_
        refine cl (placeC a c l x.name hg) ?_
        intro _ _
        try simp only [List.cons_append, List.nil_append, List.append_nil]
        by_cases hc : 1 < (plF x.name (symsF 0 l) (0, 0)).2
        · refine rr ?_
          refine en () trivial (hv := ?_)
          rw [ht, any_hit hx (by simpa using hc)]
          rfl
        · refine rr ?_
          exact ro hK3 (i + 1) ⟨by omega, any_step hx (by simpa using hc) hany⟩
      · obtain rfl : i = o.exps.length := by omega
        rw [List.take_length] at hany
        rw [hany] at ht
        refine rr ?_
        refine ro hK1 (j + 1) ⟨by omega, ?_⟩
        rw [ht, take_snoc he]
        simp
  · obtain rfl : k = l.length := by omega
    refine rr ?_
    refine en () trivial (hv := ?_)
    rw [ht, List.drop_length]
    rfl
/-- Is an object short? -/
def smallF (o : Ob) : Bool := decide (o.name.size ≤ 100) && (decide (o.code.length ≤ 200) && (decide (o.exps.length ≤ 60) && (decide (o.imps.length ≤ 60) && (decide (o.pats.length ≤ 200) && (((o.exps.take 60).all fun x => decide (x.name.size ≤ 100)) && ((o.imps.take 60).all fun x => decide (x.size ≤ 100)))))))
theorem all_bad60 {α : Type} {p : α → Bool} {l : List α} {i : Nat} {a : α} (h : l[i]? = some a) (hi : i < 60) (hp : p a = false) : (l.take 60).all p = false :=
  all_bad (i := i) (by rw [List.getElem?_take, if_pos hi, h]) hp
theorem take60 {α : Type} {p : α → Bool} {l : List α} {i : Nat} (h : ¬ (i < l.length ∧ i < 60)) (hi : i ≤ l.length) (hp : (l.take i).all p = true) : (l.take 60).all p = true := by
  by_cases h60 : i < 60
  · have : i = l.length := by omega
    subst this
    rw [List.take_length] at hp
    rw [List.take_of_length_le (by omega)]
    exact hp
  · rw [List.all_eq_true] at hp ⊢
    intro x hx
    refine hp x ?_
    have : l.take 60 = (l.take i).take 60 := by rw [List.take_take, Nat.min_eq_left (by omega)]
    rw [this] at hx
    exact List.mem_of_mem_take hx
set_option maxHeartbeats 2000000 in
theorem smallC (o : Ob) (hok : OkOb o) : FnC (α := Unit) Try.prog 15 [obG o] [] [rng o.ea (syC o.exps), rng o.ia (strC o.imps)] (fun _ => .bool (smallF o)) (fun _ => []) (fun _ => True) := by
  have h1 := hok.exps
  have h2 := hok.imps
  have h3 := hok.name
  have h4 := hok.code
  have h5 := hok.pats
  have hm : maxLen = 9223372036854775807 := rfl
  obtain ⟨onm, oca, occ, ocode, odata, oea, oec, oexps, oia, oic, oimps, opa, opc, opats⟩ := o
  unfold obG
  dsimp only at h1 h2 h3 h4 h5 ⊢
  refine fn_intro Try.func15 Try.ntmps15 rfl rfl rfl (fun w0 => ?_)
  try simp only [List.cons_append, List.nil_append, List.append_nil]
  refine rr ?_
  intro b1 _
  refine rr ?_
  refine lo [1] (fun k : Nat => [(3, .int .i64 (k : Int))]) (fun k => []) (fun k => k ≤ oexps.length ∧ k ≤ 60 ∧ (oexps.take k).all (fun x => decide (x.name.size ≤ 100)) = true) (fun k => oexps.length - k) 0 ⟨by omega, by omega, by simp⟩ ?_
  rintro k ⟨hk, hk6, hall⟩ K1 hK1
  by_cases hc : k < oexps.length ∧ k < 60
  · obtain ⟨hlt, hl6⟩ := hc
    obtain ⟨x, hx⟩ := some_at hlt
    have hxn := hok.ens x (List.mem_of_getElem? hx)
    have hsl := syC_len oexps
    have hx0 : (syC oexps)[(k : Int).toNat * 2 + 0]? = some (.string x.name) := syC_at hx 0 (by decide) _ (by omega)
    refine rr ?_
    by_cases hs : 100 < x.name.size
    · refine rr ?_
      refine en () trivial (hv := ?_)
      unfold smallF
      dsimp only
      rw [all_bad60 hx hl6 (by simp; omega)]
      simp [packR]
    · refine rr ?_
      exact ro hK1 (k + 1) ⟨by omega, by omega, all_take hx (by simp; omega) hall⟩
  · have hE := take60 hc hk hall
    have hgo : ∀ (G : Prop), ((k < oexps.length → G) ∧ (¬ k < oexps.length → G)) → G := fun G h => by by_cases hh : k < oexps.length; exact h.1 hh; exact h.2 hh
    refine hgo _ ⟨fun hlt => ?_, fun hlt => ?_⟩
    all_goals
      refine rr ?_
      refine lo [1] (fun k : Nat => [(4, .int .i64 (k : Int))]) (fun k => []) (fun k => k ≤ oimps.length ∧ k ≤ 60 ∧ (oimps.take k).all (fun x => decide (x.size ≤ 100)) = true) (fun k => oimps.length - k) 0 ⟨by omega, by omega, by simp⟩ ?_
      rintro i ⟨hi, hi6, hall2⟩ K2 hK2
      by_cases hc2 : i < oimps.length ∧ i < 60
      · obtain ⟨hil, hi60⟩ := hc2
        obtain ⟨x, hx⟩ := some_at hil
        have hxn := hok.ins x (List.mem_of_getElem? hx)
        have hsl := strC_len oimps
        have hx0 : (strC oimps)[(i : Int).toNat * 1]? = some (.string x) := by rw [Nat.mul_one]; exact strC_at hx
        refine rr ?_
        by_cases hs : 100 < x.size
        · refine rr ?_
          refine en () trivial (hv := ?_)
          unfold smallF
          dsimp only
          rw [all_bad60 hx hi60 (by simp; omega)]
          simp [packR]
        · refine rr ?_
          exact ro hK2 (i + 1) ⟨by omega, by omega, all_take hx (by simp; omega) hall2⟩
      · have hI := take60 hc2 hi hall2
        have hgo2 : ∀ (G : Prop), ((i < oimps.length → G) ∧ (¬ i < oimps.length → G)) → G := fun G h => by by_cases hh : i < oimps.length; exact h.1 hh; exact h.2 hh
        refine hgo2 _ ⟨fun hlt2 => ?_, fun hlt2 => ?_⟩
        all_goals
          unfold smallF
          dsimp only
          rw [hE, hI]
          simp only [Bool.and_true]
          by_cases g1 : onm.size ≤ 100
          · by_cases g2 : ocode.length ≤ 200
            · by_cases g3 : oexps.length ≤ 60
              · by_cases g4 : oimps.length ≤ 60
                all_goals first
                  | (exfalso; omega; done)
                  | (refine rr ?_
                     refine en () trivial (hv := ?_)
                     simp [packR, g1, g2, g3, g4]
                     done)
                  | (refine rr ?_
                     refine en () trivial (hv := ?_)
                     simp [packR, g1, g2, g3, g4]
                     omega)
              · first
                | (exfalso; omega; done)
                | (refine rr ?_
                   refine en () trivial (hv := ?_)
                   simp [packR, g1, g2, g3])
            · refine rr ?_
              refine en () trivial (hv := ?_)
              simp [packR, g1, g2]
          · refine rr ?_
            refine en () trivial (hv := ?_)
            simp [packR, g1]
end Go.Proofs.Ytmaepdebbijkiaa

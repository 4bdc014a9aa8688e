/- The reference's Take takes what the program's takes. -/
import Derived.Test.YtgmegfmabkkaoaaPl1
namespace Go.Proofs.Ytgmegfmabkkaoaa
open Go Go.Sx Go.Sx.Chunk
set_option linter.unusedVariables false
set_option linter.unusedSimpArgs false

theorem bad_of {b c : Bool} (h : c = false → b = false) (hb : b = true) : c = true := by
  cases c with
  | true => rfl
  | false => rw [h rfl] at hb; cases hb
theorem numS_at {l : List UInt8} {p k : Nat} {a : Int} (ha : a = (p : Int)) (h : p + k ≤ l.length) : numS k (l.drop p, false) = (numP l a k, (l.drop (p + k), false)) := by
  subst ha
  unfold numS cutS numP
  dsimp only
  rw [if_pos (by rw [List.length_drop]; omega), if_neg (by omega), List.drop_drop]
  rfl
theorem numP_nat {l : List UInt8} {p k : Nat} {a : Int} (ha : a = (p : Int)) (h : p + k ≤ l.length) : 0 ≤ numP l a k := by
  subst ha
  unfold numP
  rw [if_neg (by omega)]
  exact (leN_range _).1
theorem numP_out {l : List UInt8} {k : Nat} {a : Int} (h : (l.length : Int) < a + k) : numP l a k = -1 := by
  unfold numP
  rw [if_pos (.inr h)]
theorem numS_out {l : List UInt8} {p k : Nat} (hk : 1 ≤ k) (h : l.length < p + k) : (numS k (l.drop p, false)).2.2 = true := by
  unfold numS cutS
  dsimp only
  rw [if_neg (by rw [List.length_drop]; omega)]
theorem textP_out {l : List UInt8} {a : Int} (h : (l.length : Int) < a + 1) : textP l a = ([], -1) := by
  unfold textP
  rw [if_pos (.inl (by rw [numP_out (k := 1) (by omega)]; decide))]
theorem nameS_sim (l : List UInt8) (p : Nat) : (∃ (x : List UInt8) (q : Nat), textP l p = (x, (q : Int)) ∧ q ≤ l.length ∧ nameS (l.drop p, false) = (x, (l.drop q, false))) ∨ (textP l p = ([], -1) ∧ (nameS (l.drop p, false)).2.2 = true) := by
  by_cases h1 : p + 1 ≤ l.length
  · have e := numS_at (l := l) (k := 1) rfl h1
    have h0 := numP_nat (l := l) (k := 1) rfl h1
    obtain ⟨n, hn⟩ : ∃ n : Nat, numP l (p : Int) 1 = (n : Int) := ⟨(numP l (p : Int) 1).toNat, by omega⟩
    rw [hn] at e
    have t1 : ((p : Int) + 1).toNat = p + 1 := by omega
    by_cases h2 : p + 1 + n ≤ l.length
    · refine .inl ⟨(l.drop (p + 1)).take n, p + 1 + n, ?_, h2, ?_⟩
      · unfold textP
        rw [hn, if_neg (by omega), t1, Int.toNat_natCast]
        congr 1
      · unfold nameS
        rw [e]
        dsimp only
        unfold cutS
        rw [Int.toNat_natCast]
        dsimp only
        rw [if_pos (by rw [List.length_drop]; omega), List.drop_drop]
    · refine .inr ⟨?_, ?_⟩
      · unfold textP
        rw [hn, if_pos (.inr (by omega))]
      · unfold nameS
        rw [e]
        dsimp only
        unfold cutS
        rw [Int.toNat_natCast]
        dsimp only
        rw [if_neg (by rw [List.length_drop]; omega)]
  · refine .inr ⟨textP_out (by omega), ?_⟩
    have := numS_out (l := l) (p := p) (k := 1) (by omega) (by omega)
    unfold nameS
    exact bad_of (fun h => (cutS_inv h).1) this
theorem code_sim (l : List UInt8) : ∀ (n p : Nat) (a : Int) (acc : List In), a = (p : Int) → p ≤ l.length → (∃ (c : List In) (q : Nat), rCode l n a acc = some (c, (q : Int)) ∧ q ≤ l.length ∧ codeT n (l.drop p, false) acc = (c, (l.drop q, false))) ∨ (rCode l n a acc = none ∧ (codeT n (l.drop p, false) acc).2.2 = true)
  | 0, p, a, acc, ha, hp => .inl ⟨acc, p, by rw [ha]; rfl, hp, rfl⟩
  | n + 1, p, a, acc, ha, hp => by
    simp only [rCode, codeT]
    by_cases h : p + 4 ≤ l.length
    · have e := numS_at (l := l) (k := 4) ha h
      rw [e]
      dsimp only
      cases hd : decOk (numP l a 4) with
      | true =>
        simp only [if_true, Bool.not_true, Bool.or_false]
        exact code_sim l n (p + 4) (a + 4) _ (by omega) h
      | false =>
        exact .inr ⟨rfl, bad_of (fun h' => (codeT_inv n _ _ h').1) rfl⟩
    · have hb := numS_out (l := l) (p := p) (k := 4) (by omega) (by omega)
      have ho := numP_out (l := l) (k := 4) (a := a) (by omega)
      rw [ho]
      refine .inr ⟨by simp [decOk], bad_of (fun h' => (codeT_inv n _ _ h').1) ?_⟩
      dsimp only
      rw [hb]
      rfl
theorem ex_dead (l : List UInt8) (n : Nat) (a : Int) (acc : List Sy) (h : (l.length : Int) < a) : rEx l n a acc = none ∨ ∃ (c : List Sy) (q : Int), rEx l n a acc = some (c, q) ∧ (l.length : Int) < q := by
  cases n with
  | zero => exact .inr ⟨acc, a, rfl, h⟩
  | succ n =>
    left
    simp only [rEx]
    rw [textP_out (by omega)]
    rfl
theorem ex_sim (l : List UInt8) : ∀ (n p : Nat) (a : Int) (acc : List Sy), a = (p : Int) → p ≤ l.length → (∃ (c : List Sy) (q : Nat), rEx l n a acc = some (c, (q : Int)) ∧ q ≤ l.length ∧ exT n (l.drop p, false) acc = (c, (l.drop q, false))) ∨ ((rEx l n a acc = none ∨ ∃ (c : List Sy) (q : Int), rEx l n a acc = some (c, q) ∧ (l.length : Int) < q) ∧ (exT n (l.drop p, false) acc).2.2 = true)
  | 0, p, a, acc, ha, hp => .inl ⟨acc, p, by rw [ha]; rfl, hp, rfl⟩
  | n + 1, p, a, acc, ha, hp => by
    subst ha
    simp only [rEx, exT]
    rcases nameS_sim l p with ⟨x, q, h1, h2, h3⟩ | ⟨h1, h2⟩
    · rw [h1, h3]
      dsimp only
      rw [if_neg (by omega)]
      by_cases h : q + 4 ≤ l.length
      · have e := numS_at (l := l) (k := 4) (a := (q : Int)) rfl h
        rw [e]
        dsimp only
        exact ex_sim l n (q + 4) ((q : Int) + 4) _ (by omega) h
      · have hb := numS_out (l := l) (p := q) (k := 4) (by omega) (by omega)
        refine .inr ⟨ex_dead l n _ _ (by omega), bad_of (fun h' => (exT_inv n _ _ h').1) hb⟩
    · rw [h1]
      refine .inr ⟨.inl rfl, bad_of (fun h' => (exT_inv n _ _ h').1) (bad_of (fun h' => (numS4_inv h').1) h2)⟩
theorem im_sim (l : List UInt8) : ∀ (n p : Nat) (a : Int) (acc : List ByteArray), a = (p : Int) → p ≤ l.length → (∃ (c : List ByteArray) (q : Nat), rIm l n a acc = some (c, (q : Int)) ∧ q ≤ l.length ∧ imT n (l.drop p, false) acc = (c, (l.drop q, false))) ∨ (rIm l n a acc = none ∧ (imT n (l.drop p, false) acc).2.2 = true)
  | 0, p, a, acc, ha, hp => .inl ⟨acc, p, by rw [ha]; rfl, hp, rfl⟩
  | n + 1, p, a, acc, ha, hp => by
    subst ha
    simp only [rIm, imT]
    rcases nameS_sim l p with ⟨x, q, h1, h2, h3⟩ | ⟨h1, h2⟩
    · rw [h1, h3]
      dsimp only
      rw [if_neg (by omega)]
      exact im_sim l n q (q : Int) _ rfl h2
    · rw [h1]
      exact .inr ⟨rfl, bad_of (fun h' => (imT_inv n _ _ h').1) h2⟩
theorem pa_sim (l : List UInt8) : ∀ (n p : Nat) (a : Int) (acc : List Pa), a = (p : Int) → p + 6 * n ≤ l.length → paT n (l.drop p, false) acc = (rPa l n a acc, (l.drop (p + 6 * n), false))
  | 0, p, a, acc, ha, hp => rfl
  | n + 1, p, a, acc, ha, hp => by
    simp only [rPa, paT]
    rw [numS_at (l := l) (k := 4) (a := a) ha (by omega)]
    dsimp only
    rw [numS_at (l := l) (p := p + 4) (k := 1) (a := a + 4) (by omega) (by omega)]
    dsimp only
    rw [numS_at (l := l) (p := p + 4 + 1) (k := 1) (a := a + 5) (by omega) (by omega)]
    dsimp only
    rw [pa_sim l n (p + 4 + 1 + 1) (a + 6) _ (by omega) (by omega)]
    congr 3
    omega
theorem dead4 (l : List UInt8) (nm : ByteArray) (c : List In) (d : Int) (e : List Sy) (i : List ByteArray) (q : Int) (h : (l.length : Int) < q + 4) : rT4 l nm c d e (some (i, q)) = none := by
  unfold rT4
  dsimp only
  rw [if_pos (.inl (by rw [numP_out (k := 4) (by omega)]; decide))]
theorem dead3 (l : List UInt8) (nm : ByteArray) (c : List In) (d : Int) (e : List Sy) (q : Int) (h : (l.length : Int) < q + 1) : rT3 l nm c d (some (e, q)) = none := by
  unfold rT3
  dsimp only
  rw [numP_out (k := 1) (by omega)]
  exact dead4 l nm c d e [] (q + 1) (by omega)
theorem rTake_eq (l : List UInt8) : rTake l = if takeOk l then some (takeS l).1 else none := by
  obtain ⟨nm, s2, h1⟩ := some_p (nameS (headS l))
  obtain ⟨nc, s3, h2⟩ := some_p (numS 4 s2)
  obtain ⟨m, s4, h3⟩ := some_p (mostS nc 4 s3)
  obtain ⟨code, s5, h4⟩ := some_p (codeT m.toNat s4 [])
  obtain ⟨d, s6, h5⟩ := some_p (numS 4 s5)
  obtain ⟨ne, s7, h6⟩ := some_p (numS 1 s6)
  obtain ⟨exps, s8, h7⟩ := some_p (exT ne.toNat s7 [])
  obtain ⟨ni, s9, h8⟩ := some_p (numS 1 s8)
  obtain ⟨imps, s10, h9⟩ := some_p (imT ni.toNat s9 [])
  obtain ⟨np, s11, h10⟩ := some_p (numS 4 s10)
  obtain ⟨mp, s12, h11⟩ := some_p (mostS np 6 s11)
  obtain ⟨pats, s13, h12⟩ := some_p (paT mp.toNat s12 [])
  have e := takeS_eq h1 h2 h3 h4 h5 h6 h7 h8 h9 h10 h11 h12
  have b13 : s13.2 = true → takeOk l = false := fun h => by
    unfold takeOk; rw [e]; dsimp only; rw [h]; rfl
  have b12 : s12.2 = true → takeOk l = false := fun h => b13 (bad_of (fun h' => (paT_inv mp.toNat s12 [] (by rw [← h12]; exact h')).1) h)
  have b11 : s11.2 = true → takeOk l = false := fun h => b12 (bad_of (fun h' => (mostS_inv (n := np) (b := 6) (s := s11) (by rw [← h11]; exact h')).1) h)
  have b10 : s10.2 = true → takeOk l = false := fun h => b11 (bad_of (fun h' => (numS4_inv (s := s10) (by rw [← h10]; exact h')).1) h)
  have b9 : s9.2 = true → takeOk l = false := fun h => b10 (bad_of (fun h' => (imT_inv ni.toNat s9 [] (by rw [← h9]; exact h')).1) h)
  have b8 : s8.2 = true → takeOk l = false := fun h => b9 (bad_of (fun h' => (numS1_inv (s := s8) (by rw [← h8]; exact h')).1) h)
  have b7 : s7.2 = true → takeOk l = false := fun h => b8 (bad_of (fun h' => (exT_inv ne.toNat s7 [] (by rw [← h7]; exact h')).1) h)
  have b6 : s6.2 = true → takeOk l = false := fun h => b7 (bad_of (fun h' => (numS1_inv (s := s6) (by rw [← h6]; exact h')).1) h)
  have b5 : s5.2 = true → takeOk l = false := fun h => b6 (bad_of (fun h' => (numS4_inv (s := s5) (by rw [← h5]; exact h')).1) h)
  have b4 : s4.2 = true → takeOk l = false := fun h => b5 (bad_of (fun h' => (codeT_inv m.toNat s4 [] (by rw [← h4]; exact h')).1) h)
  have b3 : s3.2 = true → takeOk l = false := fun h => b4 (bad_of (fun h' => (mostS_inv (n := nc) (b := 4) (s := s3) (by rw [← h3]; exact h')).1) h)
  have b2 : s2.2 = true → takeOk l = false := fun h => b3 (bad_of (fun h' => (numS4_inv (s := s2) (by rw [← h2]; exact h')).1) h)
  have b1 : (headS l).2 = true → takeOk l = false := fun h => b2 (bad_of (fun h' => (nameS_inv (s := headS l) (by rw [← h1]; exact h')).1) h)
  have no : ∀ {x : Option Ob}, x = none → takeOk l = false → x = if takeOk l then some (takeS l).1 else none := fun hx hf => by rw [hf, hx]; rfl
  unfold rTake
  by_cases c0 : (l.length : Int) < 2 ∨ ¬ mkB (l.take 2) = mkB dsF
  · rw [if_pos c0]
    refine no rfl (b1 ?_)
    cases hh : (headS l).2 with
    | true => rfl
    | false =>
      have := headS_inv hh
      rcases c0 with c0 | c0
      · have h2 : l.length = 2 + (headS l).1.length := by
          conv => lhs; rw [this]
          rw [List.length_append]; rfl
        omega
      · exact absurd (by rw [this]; rfl) c0
  rw [if_neg c0]
  have hl2 : 2 ≤ l.length := by omega
  have hds : mkB (l.take 2) = mkB dsF := by
    by_cases hq : mkB (l.take 2) = mkB dsF
    · exact hq
    · exact absurd (.inr hq) c0
  have h0 : headS l = (l.drop 2, false) := by
    unfold headS cutS
    dsimp only
    rw [if_pos hl2]
    dsimp only
    rw [decide_eq_true hds]
    rfl
  rw [h0] at h1
  rcases nameS_sim l 2 with ⟨x, q1, t1, t2, t3⟩ | ⟨t1, t2⟩
  rotate_left
  · rw [show ((2 : Nat) : Int) = 2 from rfl] at t1
    rw [t1]
    dsimp only
    rw [if_pos (.inl (by rw [show numP l (-1) 4 = -1 from by unfold numP; rw [if_pos (.inl (by decide))]]; decide))]
    exact no rfl (b2 (by rw [← h1] at t2; exact t2))
  rw [show ((2 : Nat) : Int) = 2 from rfl] at t1
  rw [t1]
  rw [t3] at h1
  obtain ⟨rfl, rfl⟩ := Prod.mk.inj h1
  dsimp only
  by_cases c1 : q1 + 4 ≤ l.length
  rotate_left
  · rw [if_pos (.inl (by rw [numP_out (k := 4) (by omega)]; decide))]
    refine no rfl (b3 ?_)
    have := numS_out (l := l) (p := q1) (k := 4) (by omega) (by omega)
    rw [← h2] at this
    exact this
  have g2 := numS_at (l := l) (k := 4) (a := (q1 : Int)) rfl c1
  have n2 := numP_nat (l := l) (k := 4) (a := (q1 : Int)) rfl c1
  rw [g2] at h2
  obtain ⟨rfl, rfl⟩ := Prod.mk.inj h2
  obtain ⟨k1, hk1⟩ : ∃ n : Nat, numP l (q1 : Int) 4 = (n : Int) := ⟨(numP l (q1 : Int) 4).toNat, by omega⟩
  rw [hk1] at h3 ⊢
  by_cases c2 : q1 + 4 + 4 * k1 ≤ l.length
  rotate_left
  · rw [if_pos (.inr (by omega))]
    refine no rfl (b4 ?_)
    unfold mostS at h3
    dsimp only at h3
    rw [if_pos (by rw [List.length_drop]; omega)] at h3
    rw [(Prod.mk.inj h3).2]
  rw [if_neg (by omega)]
  rw [mostS_app (by dsimp only; rw [List.length_drop]; omega)] at h3
  obtain ⟨rfl, rfl⟩ := Prod.mk.inj h3
  rw [Int.toNat_natCast] at h4 ⊢
  rcases code_sim l k1 (q1 + 4) ((q1 : Int) + 4) [] (by omega) c1 with ⟨c, q2, t4, t5, t6⟩ | ⟨t4, t5⟩
  rotate_left
  · rw [t4]
    exact no rfl (b5 (by rw [← h4] at t5; exact t5))
  rw [t4]
  rw [t6] at h4
  obtain ⟨rfl, rfl⟩ := Prod.mk.inj h4
  unfold rT2
  dsimp only
  have dead : ∀ {dd : Int}, l.length < q2 + 5 → rT3 l (mkB nm) code dd (rEx l (numP l ((q2 : Int) + 4) 1).toNat ((q2 : Int) + 5) []) = none := fun h => by
    rw [numP_out (k := 1) (by omega)]
    exact dead3 l _ _ _ [] _ (by omega)
  by_cases c3 : q2 + 4 ≤ l.length
  rotate_left
  · refine no (dead (by omega)) (b6 ?_)
    have := numS_out (l := l) (p := q2) (k := 4) (by omega) (by omega)
    rw [← h5] at this
    exact this
  rw [numS_at (l := l) (k := 4) (a := (q2 : Int)) rfl c3] at h5
  obtain ⟨rfl, rfl⟩ := Prod.mk.inj h5
  by_cases c4 : q2 + 5 ≤ l.length
  rotate_left
  · refine no (dead (by omega)) (b7 ?_)
    have := numS_out (l := l) (p := q2 + 4) (k := 1) (by omega) (by omega)
    rw [← h6] at this
    exact this
  rw [numS_at (l := l) (p := q2 + 4) (k := 1) (a := (q2 : Int) + 4) (by omega) (by omega)] at h6
  obtain ⟨rfl, rfl⟩ := Prod.mk.inj h6
  rcases ex_sim l (numP l ((q2 : Int) + 4) 1).toNat (q2 + 4 + 1) ((q2 : Int) + 5) [] (by omega) (by omega) with ⟨ce, q3, t7, t8, t9⟩ | ⟨t7, t8⟩
  rotate_left
  · refine no ?_ (b8 (by rw [← h7] at t8; exact t8))
    rcases t7 with t7 | ⟨cc, qq, t7, t9⟩
    · rw [t7]; rfl
    · rw [t7]; exact dead3 l _ _ _ _ _ (by omega)
  rw [t7]
  rw [t9] at h7
  obtain ⟨rfl, rfl⟩ := Prod.mk.inj h7
  by_cases c5 : q3 + 1 ≤ l.length
  rotate_left
  · refine no (dead3 l _ _ _ _ _ (by omega)) (b9 ?_)
    have := numS_out (l := l) (p := q3) (k := 1) (by omega) (by omega)
    rw [← h8] at this
    exact this
  unfold rT3
  dsimp only
  rw [numS_at (l := l) (p := q3) (k := 1) (a := (q3 : Int)) rfl c5] at h8
  obtain ⟨rfl, rfl⟩ := Prod.mk.inj h8
  rcases im_sim l (numP l (q3 : Int) 1).toNat (q3 + 1) ((q3 : Int) + 1) [] (by omega) c5 with ⟨ci, q4, t10, t11, t12⟩ | ⟨t10, t11⟩
  rotate_left
  · refine no ?_ (b10 (by rw [← h9] at t11; exact t11))
    rw [t10]; rfl
  rw [t10]
  rw [t12] at h9
  obtain ⟨rfl, rfl⟩ := Prod.mk.inj h9
  by_cases c6 : q4 + 4 ≤ l.length
  rotate_left
  · refine no (dead4 l _ _ _ _ _ _ (by omega)) (b11 ?_)
    have := numS_out (l := l) (p := q4) (k := 4) (by omega) (by omega)
    rw [← h10] at this
    exact this
  unfold rT4
  dsimp only
  have n6 := numP_nat (l := l) (k := 4) (a := (q4 : Int)) rfl c6
  rw [numS_at (l := l) (p := q4) (k := 4) (a := (q4 : Int)) rfl c6] at h10
  obtain ⟨rfl, rfl⟩ := Prod.mk.inj h10
  obtain ⟨k2, hk2⟩ : ∃ n : Nat, numP l (q4 : Int) 4 = (n : Int) := ⟨(numP l (q4 : Int) 4).toNat, by omega⟩
  rw [hk2] at h11 ⊢
  rw [Int.toNat_natCast]
  by_cases c7 : q4 + 4 + 6 * k2 ≤ l.length
  rotate_left
  · rw [if_pos (.inr (by omega))]
    refine no rfl (b12 ?_)
    unfold mostS at h11
    dsimp only at h11
    rw [if_pos (by rw [List.length_drop]; omega)] at h11
    rw [(Prod.mk.inj h11).2]
  rw [mostS_app (by dsimp only; rw [List.length_drop]; omega)] at h11
  obtain ⟨rfl, rfl⟩ := Prod.mk.inj h11
  rw [Int.toNat_natCast, pa_sim l k2 (q4 + 4) ((q4 : Int) + 4) [] (by omega) c7] at h12
  obtain ⟨rfl, rfl⟩ := Prod.mk.inj h12
  have hok : takeOk l = (decide (l.drop (q4 + 4 + 6 * k2) = []) && goodO (takeS l).1) := by
    unfold takeOk
    rw [e]
    rfl
  rw [hok, e]
  dsimp only
  by_cases c8 : q4 + 4 + 6 * k2 = l.length
  · rw [if_neg (by omega), decide_eq_true (List.drop_eq_nil_of_le (by omega)), Bool.true_and]
  · rw [if_pos (.inr (by omega)), decide_eq_false (by rw [List.drop_eq_nil_iff]; omega)]
    rfl
end Go.Proofs.Ytgmegfmabkkaoaa

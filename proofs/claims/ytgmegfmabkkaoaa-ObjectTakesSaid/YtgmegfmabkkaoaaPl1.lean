/- Objects as bytes: what is written is taken back, and what is taken was written so. -/
import Derived.Test.YtgmegfmabkkaoaaRf3
namespace Go.Proofs.Ytgmegfmabkkaoaa
open Go Go.Sx Go.Sx.Chunk
set_option linter.unusedVariables false
set_option linter.unusedSimpArgs false

theorem dec_enc {i : In} (h : goodI i = true) : decF (encF i) = i ∧ 0 ≤ encF i ∧ encF i < 4294967296 := by
  obtain ⟨op, a, b, c, imm⟩ := i
  obtain ⟨h1, h2, h3, h4, h5, h6, h7, h8, h9, h10, hci, hc0, hi0⟩ := good_parts h
  dsimp only at h1 h2 h3 h4 h5 h6 h7 h8 h9 h10 hci hc0 hi0
  have hr : 0 ≤ c * 2048 + imm % 65536 ∧ c * 2048 + imm % 65536 < 65536 := by omega
  have e : encF ⟨op, a, b, c, imm⟩ = op * 67108864 + a * 2097152 + b * 65536 + (c * 2048 + imm % 65536) := by unfold encF; dsimp only; omega
  have o1 : encF ⟨op, a, b, c, imm⟩ / 67108864 = op := by omega
  have o2 : encF ⟨op, a, b, c, imm⟩ / 2097152 % 32 = a := by omega
  have o3 : encF ⟨op, a, b, c, imm⟩ / 65536 % 32 = b := by omega
  refine ⟨?_, by omega, by omega⟩
  unfold decF
  rw [o1, o2, o3]
  cases hI : hasI op with
  | true =>
    have := hc0 hI
    rw [if_pos rfl]
    subst this
    unfold extF
    congr 1
    omega
  | false =>
    have := hi0 hI
    rw [if_neg (by simp)]
    subst this
    congr 1
    omega
theorem decOk_parts {w : Int} (h : decOk w = true) : 0 ≤ w ∧ w < 4294967296 ∧ goodI (decF w) = true ∧ encF (decF w) = w := by
  unfold decOk at h
  simp only [Bool.and_eq_true, decide_eq_true_eq] at h
  exact h
theorem decOk_enc {i : In} (h : goodI i = true) : decOk (encF i) = true := by
  obtain ⟨h1, h2, h3⟩ := dec_enc h
  unfold decOk
  rw [h1, h, decide_eq_true h2, decide_eq_true h3, decide_eq_true rfl]
  rfl
theorem cutS_app (x r : List UInt8) (b : Bool) (k : Nat) (hk : x.length = k) : cutS k (x ++ r, b) = (x, (r, b)) := by
  subst hk
  unfold cutS
  dsimp only
  rw [if_pos (by simp), List.take_left, List.drop_left]
theorem cutS_inv {k : Nat} {s : RS} (h : (cutS k s).2.2 = false) : s.2 = false ∧ s.1 = (cutS k s).1 ++ (cutS k s).2.1 ∧ (cutS k s).1.length = k := by
  unfold cutS at h ⊢
  split at h
  · rename_i hk
    rw [if_pos hk]
    exact ⟨h, (List.take_append_drop _ _).symm, by simp; omega⟩
  · cases h
theorem leN_four {n : Int} (h0 : 0 ≤ n) (h1 : n < 4294967296) : leN (fourB n) = n := by
  unfold fourB
  simp only [leN, b8_nat]
  omega
theorem leN_one {n : Int} (h0 : 0 ≤ n) (h1 : n < 256) : leN [b8 n] = n := by
  simp only [leN, b8_nat]
  omega
theorem b8_of (c : UInt8) {n : Int} (h : n % 256 = (c.toNat : Int)) : b8 n = c := by
  apply UInt8.toNat_inj.1
  have := b8_nat n
  omega
theorem four_leN : ∀ {x : List UInt8}, x.length = 4 → fourB (leN x) = x
  | [a, b, c, d], _ => by
    have ha := a.toNat_lt
    have hb := b.toNat_lt
    have hc := c.toNat_lt
    have hd := d.toNat_lt
    unfold fourB
    simp only [leN]
    rw [b8_of a (by omega), b8_of b (by omega), b8_of c (by omega), b8_of d (by omega)]
theorem one_leN : ∀ {x : List UInt8}, x.length = 1 → [b8 (leN x)] = x
  | [a], _ => by
    have ha := a.toNat_lt
    simp only [leN]
    rw [b8_of a (by omega)]
theorem numS4 {n : Int} (h0 : 0 ≤ n) (h1 : n < 4294967296) (r : List UInt8) (b : Bool) : numS 4 (fourB n ++ r, b) = (n, (r, b)) := by
  unfold numS
  rw [cutS_app _ _ _ 4 rfl]
  dsimp only
  rw [leN_four h0 h1]
theorem numS1 {n : Int} (h0 : 0 ≤ n) (h1 : n < 256) (r : List UInt8) (b : Bool) : numS 1 ([b8 n] ++ r, b) = (n, (r, b)) := by
  unfold numS
  rw [cutS_app _ _ _ 1 rfl]
  dsimp only
  rw [leN_one h0 h1]
theorem nameS_app {s : ByteArray} (h : s.size ≤ 255) (r : List UInt8) (b : Bool) : nameS (nameB s ++ r, b) = (txt s, (r, b)) := by
  unfold nameS
  have e : nameB s ++ r = [b8 (s.size : Int)] ++ (txt s ++ r) := rfl
  rw [e, numS1 (by omega) (by omega)]
  dsimp only
  rw [cutS_app _ _ _ _ (by rw [txt_len]; omega)]
theorem numS4_inv {s : RS} (h : (numS 4 s).2.2 = false) : s.2 = false ∧ s.1 = fourB (numS 4 s).1 ++ (numS 4 s).2.1 ∧ 0 ≤ (numS 4 s).1 := by
  obtain ⟨h1, h2, h3⟩ := cutS_inv h
  refine ⟨h1, ?_, (leN_range _).1⟩
  unfold numS
  dsimp only
  rw [four_leN h3]
  exact h2
theorem numS1_inv {s : RS} (h : (numS 1 s).2.2 = false) : s.2 = false ∧ s.1 = [b8 (numS 1 s).1] ++ (numS 1 s).2.1 ∧ 0 ≤ (numS 1 s).1 ∧ (numS 1 s).1 < 256 := by
  obtain ⟨h1, h2, h3⟩ := cutS_inv h
  have := leN_range (cutS 1 s).1
  rw [h3] at this
  refine ⟨h1, ?_, this.1, this.2⟩
  unfold numS
  dsimp only
  rw [one_leN h3]
  exact h2
theorem nameS_inv {s : RS} (h : (nameS s).2.2 = false) : s.2 = false ∧ s.1 = nameB (mkB (nameS s).1) ++ (nameS s).2.1 := by
  obtain ⟨h1, h2, h3⟩ := cutS_inv h
  obtain ⟨h4, h5, h6, h7⟩ := numS1_inv h1
  refine ⟨h4, ?_⟩
  rw [h5, h2]
  unfold nameB
  rw [mkB_size, txt_mkB]
  have e : (((nameS s).1.length : Nat) : Int) = (numS 1 s).1 := by
    show (((cutS (numS 1 s).1.toNat (numS 1 s).2).1.length : Nat) : Int) = _
    rw [h3]; omega
  rw [e]
  rfl
theorem mostS_inv {n b : Int} {s : RS} (h : (mostS n b s).2.2 = false) : s.2 = false ∧ mostS n b s = (n, s) := by
  unfold mostS at h ⊢
  split at h
  · cases h
  · rename_i hk
    rw [if_neg hk]
    exact ⟨h, rfl⟩
theorem mostS_app {n b : Int} {s : RS} (h : n * b ≤ s.1.length) : mostS n b s = (n, s) := by
  unfold mostS
  rw [if_neg (by omega)]
theorem codeT_app : ∀ (code : List In) (acc : List In) (r : List UInt8) (b : Bool), (∀ i ∈ code, goodI i = true) → codeT code.length (codeB code ++ r, b) acc = (acc ++ code, (r, b))
  | [], acc, r, b, _ => by simp [codeT, codeB]
  | i :: code, acc, r, b, hg => by
    obtain ⟨h1, h2, h3⟩ := dec_enc (hg i (by simp))
    have h4 := decOk_enc (hg i (by simp))
    have e : codeB (i :: code) ++ r = fourB (encF i) ++ (codeB code ++ r) := by simp [codeB]
    simp only [List.length_cons, codeT]
    rw [e, numS4 h2 h3]
    dsimp only
    rw [h4, if_pos rfl, h1]
    have := codeT_app code (acc ++ [i]) r b (fun j hj => hg j (by simp [hj]))
    simp only [Bool.not_true, Bool.or_false]
    rw [this]
    simp
theorem exT_app : ∀ (l : List Sy) (acc : List Sy) (r : List UInt8) (b : Bool), (∀ x ∈ l, x.name.size ≤ 255 ∧ 0 ≤ x.pl ∧ x.pl < 4294967296) → exT l.length (exB l ++ r, b) acc = (acc ++ l, (r, b))
  | [], acc, r, b, _ => by simp [exT, exB]
  | x :: l, acc, r, b, hg => by
    obtain ⟨h1, h2, h3⟩ := hg x (by simp)
    have e : exB (x :: l) ++ r = nameB x.name ++ (fourB x.pl ++ (exB l ++ r)) := by simp [exB]
    simp only [List.length_cons, exT]
    rw [e, nameS_app h1]
    dsimp only
    rw [numS4 h2 h3]
    dsimp only
    rw [mkB_txt, exT_app l _ r b (fun j hj => hg j (by simp [hj]))]
    simp
theorem imT_app : ∀ (l : List ByteArray) (acc : List ByteArray) (r : List UInt8) (b : Bool), (∀ x ∈ l, x.size ≤ 255) → imT l.length (imB l ++ r, b) acc = (acc ++ l, (r, b))
  | [], acc, r, b, _ => by simp [imT, imB]
  | x :: l, acc, r, b, hg => by
    have e : imB (x :: l) ++ r = nameB x ++ (imB l ++ r) := by simp [imB]
    simp only [List.length_cons, imT]
    rw [e, nameS_app (hg x (by simp))]
    dsimp only
    rw [mkB_txt, imT_app l _ r b (fun j hj => hg j (by simp [hj]))]
    simp
theorem paT_app : ∀ (l : List Pa) (acc : List Pa) (r : List UInt8) (b : Bool), (∀ x ∈ l, 0 ≤ x.pl ∧ x.pl < 4294967296 ∧ 0 ≤ x.kind ∧ x.kind < 256 ∧ 0 ≤ x.n ∧ x.n < 256) → paT l.length (paB l ++ r, b) acc = (acc ++ l, (r, b))
  | [], acc, r, b, _ => by simp [paT, paB]
  | x :: l, acc, r, b, hg => by
    obtain ⟨h1, h2, h3, h4, h5, h6⟩ := hg x (by simp)
    have e : paB (x :: l) ++ r = fourB x.pl ++ ([b8 x.kind] ++ ([b8 x.n] ++ (paB l ++ r))) := by simp [paB]
    simp only [List.length_cons, paT]
    rw [e, numS4 h1 h2]
    dsimp only
    rw [numS1 h3 h4]
    dsimp only
    rw [numS1 h5 h6]
    dsimp only
    rw [paT_app l _ r b (fun j hj => hg j (by simp [hj]))]
    simp
theorem nameF_255 {s : ByteArray} (h : nameF s = true) : s.size ≤ 255 := by have := nameF_len h; omega
/-- What is written is taken back, and what is behind it is left. -/
theorem takeS_put {o : Ob} (hg : goodO o = true) (r : List UInt8) : takeS (putF o ++ r) = (canon o, (r, false)) := by
  have g := goodP_of hg
  have hcl := g.code
  have hel := g.exps
  have hil := g.imps
  have hpl := g.pats
  have hd := g.data
  have h0 : headS (putF o ++ r) = (nameB o.name ++ (fourB (o.code.length : Int) ++ (codeB o.code ++ (fourB o.data ++ ([b8 (o.exps.length : Int)] ++ (exB o.exps ++ ([b8 (o.imps.length : Int)] ++ (imB o.imps ++ (fourB (o.pats.length : Int) ++ (paB o.pats ++ r))))))))), false) := by
    unfold headS putF
    simp only [List.append_assoc]
    rw [cutS_app dsF _ _ 2 rfl]
    dsimp only
    rw [decide_eq_true rfl]
    rfl
  have h1 := nameS_app (nameF_255 g.name) (fourB (o.code.length : Int) ++ (codeB o.code ++ (fourB o.data ++ ([b8 (o.exps.length : Int)] ++ (exB o.exps ++ ([b8 (o.imps.length : Int)] ++ (imB o.imps ++ (fourB (o.pats.length : Int) ++ (paB o.pats ++ r))))))))) false
  rw [← h0] at h1
  have e1 := codeB_len o.code
  have e2 := paB_len o.pats
  have := takeS_eq h1.symm (numS4 (by omega) (by omega) _ _).symm (mostS_app (by simp only [List.length_append, e1]; omega)).symm (codeT_app o.code [] _ false g.ins).symm (numS4 hd.1 (by omega) _ _).symm
    (numS1 (by omega) (by omega) _ _).symm (exT_app o.exps [] _ false (fun x hx => ⟨nameF_255 (g.exn x hx).1, (g.exn x hx).2.1, by have := (g.exn x hx).2.2; omega⟩)).symm (numS1 (by omega) (by omega) _ _).symm
    (imT_app o.imps [] _ false (fun x hx => nameF_255 (g.imn x hx))).symm (numS4 (by omega) (by omega) _ _).symm (mostS_app (by simp only [List.length_append, e2]; omega)).symm
    (paT_app o.pats [] r false (fun x hx => by have := g.pat x hx; omega)).symm
  rw [this, mkB_txt]
  rfl
theorem codeT_inv : ∀ (n : Nat) (s : RS) (acc : List In), (codeT n s acc).2.2 = false → s.2 = false ∧ ∃ code, (codeT n s acc).1 = acc ++ code ∧ code.length = n ∧ s.1 = codeB code ++ (codeT n s acc).2.1
  | 0, s, acc, h => ⟨h, [], by simp [codeT, codeB]⟩
  | n + 1, s, acc, h => by
    simp only [codeT] at h ⊢
    obtain ⟨h1, code, h2, h3, h4⟩ := codeT_inv n _ _ h
    dsimp only at h1 h4
    simp only [Bool.or_eq_false_iff, Bool.not_eq_false'] at h1
    obtain ⟨h5, h6⟩ := h1
    obtain ⟨h7, h8, h9⟩ := numS4_inv h5
    obtain ⟨_, _, _, h10⟩ := decOk_parts h6
    refine ⟨h7, decF (numS 4 s).1 :: code, ?_, by simp [h3], ?_⟩
    · rw [h2, if_pos h6]; simp
    · have e : codeB (decF (numS 4 s).1 :: code) = fourB (encF (decF (numS 4 s).1)) ++ codeB code := by simp [codeB]
      rw [e, h10, List.append_assoc, ← h4]
      exact h8
theorem exT_inv : ∀ (n : Nat) (s : RS) (acc : List Sy), (exT n s acc).2.2 = false → s.2 = false ∧ ∃ l, (exT n s acc).1 = acc ++ l ∧ l.length = n ∧ s.1 = exB l ++ (exT n s acc).2.1
  | 0, s, acc, h => ⟨h, [], by simp [exT, exB]⟩
  | n + 1, s, acc, h => by
    simp only [exT] at h ⊢
    obtain ⟨h1, l, h2, h3, h4⟩ := exT_inv n _ _ h
    obtain ⟨h5, h6, _⟩ := numS4_inv h1
    obtain ⟨h7, h8⟩ := nameS_inv h5
    refine ⟨h7, ⟨mkB (nameS s).1, (numS 4 (nameS s).2).1⟩ :: l, by rw [h2]; simp, by simp [h3], ?_⟩
    have e : exB (⟨mkB (nameS s).1, (numS 4 (nameS s).2).1⟩ :: l) = nameB (mkB (nameS s).1) ++ (fourB (numS 4 (nameS s).2).1 ++ exB l) := by simp [exB]
    rw [e, List.append_assoc, List.append_assoc, ← h4, ← h6]
    exact h8
theorem imT_inv : ∀ (n : Nat) (s : RS) (acc : List ByteArray), (imT n s acc).2.2 = false → s.2 = false ∧ ∃ l, (imT n s acc).1 = acc ++ l ∧ l.length = n ∧ s.1 = imB l ++ (imT n s acc).2.1
  | 0, s, acc, h => ⟨h, [], by simp [imT, imB]⟩
  | n + 1, s, acc, h => by
    simp only [imT] at h ⊢
    obtain ⟨h1, l, h2, h3, h4⟩ := imT_inv n _ _ h
    obtain ⟨h7, h8⟩ := nameS_inv h1
    refine ⟨h7, mkB (nameS s).1 :: l, by rw [h2]; simp, by simp [h3], ?_⟩
    have e : imB (mkB (nameS s).1 :: l) = nameB (mkB (nameS s).1) ++ imB l := by simp [imB]
    rw [e, List.append_assoc, ← h4]
    exact h8
theorem paT_inv : ∀ (n : Nat) (s : RS) (acc : List Pa), (paT n s acc).2.2 = false → s.2 = false ∧ ∃ l, (paT n s acc).1 = acc ++ l ∧ l.length = n ∧ s.1 = paB l ++ (paT n s acc).2.1
  | 0, s, acc, h => ⟨h, [], by simp [paT, paB]⟩
  | n + 1, s, acc, h => by
    simp only [paT] at h ⊢
    obtain ⟨h1, l, h2, h3, h4⟩ := paT_inv n _ _ h
    obtain ⟨h5, h6, _⟩ := numS1_inv h1
    obtain ⟨h7, h8, _⟩ := numS1_inv h5
    obtain ⟨h9, h10, _⟩ := numS4_inv h7
    refine ⟨h9, ⟨(numS 4 s).1, (numS 1 (numS 4 s).2).1, (numS 1 (numS 1 (numS 4 s).2).2).1⟩ :: l, by rw [h2]; simp, by simp [h3], ?_⟩
    have e : paB (⟨(numS 4 s).1, (numS 1 (numS 4 s).2).1, (numS 1 (numS 1 (numS 4 s).2).2).1⟩ :: l) = fourB (numS 4 s).1 ++ ([b8 (numS 1 (numS 4 s).2).1] ++ ([b8 (numS 1 (numS 1 (numS 4 s).2).2).1] ++ paB l)) := by simp [paB]
    rw [e, List.append_assoc, List.append_assoc, List.append_assoc, ← h4, ← h6, ← h8]
    exact h10
theorem headS_inv {l : List UInt8} (h : (headS l).2 = false) : l = dsF ++ (headS l).1 := by
  unfold headS at h ⊢
  dsimp only at h ⊢
  unfold cutS at h ⊢
  dsimp only at h ⊢
  split at h
  · rename_i hk
    rw [if_pos hk]
    simp only [Bool.not_eq_false', decide_eq_true_eq, mkB_inj] at h
    conv => lhs; rw [← List.take_append_drop 2 l]
    rw [h]
  · exact absurd h (by decide)
/-- What is taken without a fault was written so. -/
theorem takeS_inv {l : List UInt8} (h : (takeS l).2.2 = false) : l = putF (takeS l).1 ++ (takeS l).2.1 := by
  obtain ⟨nm, s2, h1⟩ := some_p (nameS (headS l))
  obtain ⟨nc, s3, h2⟩ := some_p (numS 4 s2)
  obtain ⟨m, s4, h3⟩ := some_p (mostS nc 4 s3)
  obtain ⟨code, s5, h4⟩ := some_p (codeT m.toNat s4 [])
  obtain ⟨d, s6, h5⟩ := some_p (numS 4 s5)
  obtain ⟨ne, s7, h6⟩ := some_p (numS 1 s6)
  obtain ⟨exps, s8, h7⟩ := some_p (exT ne.toNat s7 [])
  obtain ⟨ni, s9, h8⟩ := some_p (numS 1 s8)
  obtain ⟨imps, s10, h9⟩ := some_p (imT ni.toNat s9 [])
  obtain ⟨np, s11, h10⟩ := some_p (numS 4 s10)
  obtain ⟨mp, s12, h11⟩ := some_p (mostS np 6 s11)
  obtain ⟨pats, s13, h12⟩ := some_p (paT mp.toNat s12 [])
  have e := takeS_eq h1 h2 h3 h4 h5 h6 h7 h8 h9 h10 h11 h12
  rw [e] at h ⊢
  dsimp only at h ⊢
  obtain ⟨k12, l12, f12, g12, i12⟩ := paT_inv mp.toNat s12 [] (by rw [← h12]; exact h)
  rw [← h12] at f12 i12
  obtain ⟨k11, j11⟩ := mostS_inv (n := np) (b := 6) (s := s11) (by rw [← h11]; exact k12)
  rw [← h11] at j11
  obtain ⟨rfl, rfl⟩ := Prod.mk.inj j11
  obtain ⟨k10, i10, r10⟩ := numS4_inv (s := s10) (by rw [← h10]; exact k11)
  rw [← h10] at i10 r10
  obtain ⟨k9, l9, f9, g9, i9⟩ := imT_inv ni.toNat s9 [] (by rw [← h9]; exact k10)
  rw [← h9] at f9 i9
  obtain ⟨k8, i8, r8⟩ := numS1_inv (s := s8) (by rw [← h8]; exact k9)
  rw [← h8] at i8 r8
  obtain ⟨k7, l7, f7, g7, i7⟩ := exT_inv ne.toNat s7 [] (by rw [← h7]; exact k8)
  rw [← h7] at f7 i7
  obtain ⟨k6, i6, r6⟩ := numS1_inv (s := s6) (by rw [← h6]; exact k7)
  rw [← h6] at i6 r6
  obtain ⟨k5, i5, r5⟩ := numS4_inv (s := s5) (by rw [← h5]; exact k6)
  rw [← h5] at i5 r5
  obtain ⟨k4, l4, f4, g4, i4⟩ := codeT_inv m.toNat s4 [] (by rw [← h4]; exact k5)
  rw [← h4] at f4 i4
  obtain ⟨k3, j3⟩ := mostS_inv (n := nc) (b := 4) (s := s3) (by rw [← h3]; exact k4)
  rw [← h3] at j3
  obtain ⟨rfl, rfl⟩ := Prod.mk.inj j3
  obtain ⟨k2, i2, r2⟩ := numS4_inv (s := s2) (by rw [← h2]; exact k3)
  rw [← h2] at i2 r2
  obtain ⟨k1, i1⟩ := nameS_inv (s := headS l) (by rw [← h1]; exact k2)
  rw [← h1] at i1
  have i0 := headS_inv k1
  dsimp only [List.nil_append] at f12 i12 i10 r10 f9 i9 i8 r8 f7 i7 i6 r6 i5 r5 f4 i4 i2 r2 i1
  subst f12 f9 f7 f4
  have c1 : ((code.length : Nat) : Int) = m := by omega
  have c2 : ((exps.length : Nat) : Int) = ne := by omega
  have c3 : ((imps.length : Nat) : Int) = ni := by omega
  have c4 : ((pats.length : Nat) : Int) = mp := by omega
  unfold putF
  dsimp only
  rw [c1, c2, c3, c4]
  simp only [List.append_assoc]
  rw [← i12, ← i10, ← i9, ← i8, ← i7, ← i6, ← i5, ← i4, ← i2, ← i1]
  exact i0
theorem takeOk_inv {l : List UInt8} (h : takeOk l = true) : goodO (takeF l) = true ∧ l = putF (takeF l) ∧ takeF l = (takeS l).1 := by
  have e : takeF l = (takeS l).1 := by unfold takeF; rw [if_pos h]
  unfold takeOk at h
  simp only [Bool.and_eq_true, Bool.not_eq_true', decide_eq_true_eq] at h
  obtain ⟨h1, h2, h3⟩ := h
  have := takeS_inv h1
  rw [h2, List.append_nil] at this
  rw [e]
  exact ⟨h3, this, rfl⟩
theorem good_canon (o : Ob) : goodO (canon o) = goodO o := rfl
theorem put_canon (o : Ob) : putF (canon o) = putF o := rfl
theorem takeOk_put {o : Ob} (hg : goodO o = true) (r : List UInt8) : takeOk (putF o ++ r) = decide (r = []) := by
  unfold takeOk
  rw [takeS_put hg]
  dsimp only
  rw [good_canon, hg]
  simp
theorem takeF_put {o : Ob} (hg : goodO o = true) : takeOk (putF o) = true ∧ takeF (putF o) = canon o := by
  have h := takeOk_put hg []
  have h2 := takeS_put hg []
  rw [List.append_nil] at h h2
  refine ⟨by rw [h]; rfl, ?_⟩
  unfold takeF
  rw [h, h2]
  rfl
/-- Objects that are written alike are alike. -/
theorem put_inj {a b : Ob} (ha : goodO a = true) (hb : goodO b = true) (h : putF a = putF b) : canon a = canon b := by
  rw [← (takeF_put ha).2, h, (takeF_put hb).2]
theorem take_short {o : Ob} (hg : goodO o = true) {n : Nat} (hn : n < (putF o).length) : takeOk ((putF o).take n) = false := by
  cases h : takeOk ((putF o).take n) with
  | false => rfl
  | true =>
    obtain ⟨h1, h2, _⟩ := takeOk_inv h
    have h3 := takeS_put h1 ((putF o).drop n)
    rw [← h2, List.take_append_drop] at h3
    have h4 := takeS_put hg []
    rw [List.append_nil, h3] at h4
    have h5 : (putF o).drop n = [] := congrArg (fun x => x.2.1) h4
    have h6 := congrArg List.length h5
    simp only [List.length_drop, List.length_nil] at h6
    omega
end Go.Proofs.Ytgmegfmabkkaoaa

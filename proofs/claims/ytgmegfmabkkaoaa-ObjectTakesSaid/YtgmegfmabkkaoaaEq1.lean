/- Equal objects. -/
import Derived.Test.YtgmegfmabkkaoaaSm1
namespace Go.Proofs.Ytgmegfmabkkaoaa
open Go Go.Sx Go.Sx.Chunk
set_option linter.unusedVariables false
set_option linter.unusedSimpArgs false

/-- Are objects alike? -/
def alike (x y : Ob) : Bool := decide (x.name = y.name) && (decide (x.data = y.data) && (decide (x.code = y.code) && (decide (x.exps = y.exps) && (decide (x.imps = y.imps) && decide (x.pats = y.pats)))))
theorem alike_iff (x y : Ob) : alike x y = true ↔ canon x = canon y := by
  obtain ⟨n1, a1, c1, code1, d1, ea1, ec1, e1, ia1, ic1, i1, pa1, pc1, p1⟩ := x
  obtain ⟨n2, a2, c2, code2, d2, ea2, ec2, e2, ia2, ic2, i2, pa2, pc2, p2⟩ := y
  unfold alike canon
  simp only [Bool.and_eq_true, decide_eq_true_eq, Ob.mk.injEq, true_and, and_true]
  constructor
  · rintro ⟨h1, h2, h3, h4, h5, h6⟩
    exact ⟨h1, h3, h2, h4, h5, h6⟩
  · rintro ⟨h1, h3, h2, h4, h5, h6⟩
    exact ⟨h1, h2, h3, h4, h5, h6⟩
theorem ne_of {α : Type} {x y : List α} {k : Nat} {e f : α} (he : x[k]? = some e) (hf : y[k]? = some f) (h : ¬ e = f) : ¬ x = y := fun h' => by
  rw [h', hf] at he; exact h (Option.some.inj he).symm
theorem eq_all {α : Type} {x y : List α} (h : x.take x.length = y.take x.length) (hl : x.length = y.length) : x = y := by
  rw [List.take_length, hl, List.take_length] at h
  exact h
set_option maxHeartbeats 8000000 in
theorem equalC (x y : Ob) (hokx : OkOb x) (hoky : OkOb y) : FnC (α := Unit) Try.prog 19 [obG x, obG y] [] (obS x ++ obS y) (fun _ => .bool (alike x y)) (fun _ => []) (fun _ => True) := by
  have hm : maxLen = 9223372036854775807 := rfl
  have hx1 := hokx.code
  have hx2 := hokx.exps
  have hx3 := hokx.imps
  have hx4 := hokx.pats
  have hy1 := hoky.code
  have hy2 := hoky.exps
  have hy3 := hoky.imps
  have hy4 := hoky.pats
  obtain ⟨xn, xa, xc, xcode, xd, xea, xec, xexps, xia, xic, ximps, xpa, xpc, xpats⟩ := x
  obtain ⟨yn, ya, yc, ycode, yd, yea, yec, yexps, yia, yic, yimps, ypa, ypc, ypats⟩ := y
  unfold obG obS
  simp only [List.cons_append, List.nil_append]
  dsimp only at hx1 hx2 hx3 hx4 hy1 hy2 hy3 hy4 ⊢
  refine fn_intro Try.func19 Try.ntmps19 rfl rfl rfl (fun w0 => ?_)
  try simp only [List.cons_append, List.nil_append, List.append_nil]
  refine rr ?_
  intro b1 _
  refine rr ?_
  intro b2 _
  refine rr ?_
  by_cases h1 : xn = yn
  rotate_left
  · have hd : (!decide (xn = yn)) = true := by rw [decide_eq_false h1]; rfl
    refine rr ?_
    refine en () trivial (hv := ?_)
    unfold alike
    dsimp only
    simp [packR, h1]
  have hd : (!decide (xn = yn)) = false := by rw [decide_eq_true h1]; rfl
  by_cases h2 : xd = yd
  rotate_left
  · skip
    refine rr ?_
    refine en () trivial (hv := ?_)
    unfold alike
    dsimp only
    simp [packR, h2]
  by_cases h3 : xcode.length = ycode.length
  rotate_left
  · have h3' : ¬ xcode = ycode := fun h => h3 (by rw [h])
    refine rr ?_
    refine en () trivial (hv := ?_)
    unfold alike
    dsimp only
    simp [packR, h3']
  by_cases h4 : xexps.length = yexps.length
  rotate_left
  · have h4' : ¬ xexps = yexps := fun h => h4 (by rw [h])
    refine rr ?_
    refine en () trivial (hv := ?_)
    unfold alike
    dsimp only
    simp [packR, h4']
  by_cases h5 : ximps.length = yimps.length
  rotate_left
  · have h5' : ¬ ximps = yimps := fun h => h5 (by rw [h])
    refine rr ?_
    refine en () trivial (hv := ?_)
    unfold alike
    dsimp only
    simp [packR, h5']
  by_cases h6 : xpats.length = ypats.length
  rotate_left
  · have h6' : ¬ xpats = ypats := fun h => h6 (by rw [h])
    refine rr ?_
    refine en () trivial (hv := ?_)
    unfold alike
    dsimp only
    simp [packR, h6']
  refine rr ?_
  clear hd
  refine lo [2, 3] (fun k : Nat => [(5, .int .i64 (k : Int))]) (fun k => []) (fun k => k ≤ xcode.length ∧ xcode.take k = ycode.take k) (fun k => xcode.length - k) 0 ⟨by omega, by simp⟩ ?_
  rintro k ⟨hk, heq⟩ K1 hK1
  by_cases hlt : k < xcode.length
  · obtain ⟨e, he⟩ := some_at hlt
    obtain ⟨f, hf⟩ := some_at (l := ycode) (k := k) (by omega)
    have heA : ((insC xcode).drop ((k : Int).toNat * 5)).take 5 = [.int .i64 e.op, .int .i64 e.a, .int .i64 e.b, .int .i64 e.c, .int .i64 e.imm] := insC_all he _ (by omega)
    have heL := insC_len xcode
    have hfA : ((insC ycode).drop ((k : Int).toNat * 5)).take 5 = [.int .i64 f.op, .int .i64 f.a, .int .i64 f.b, .int .i64 f.c, .int .i64 f.imm] := insC_all hf _ (by omega)
    have hfL := insC_len ycode
    refine rr ?_
    refine dx [0, 1, 2, 3, 4, 5, 6, 7, 8, 9, 10] [1, 4, 6, 9] [] ?_
    refine rr ?_
    by_cases hef : e = f
    · subst hef
      refine rr ?_
      exact ro hK1 (k + 1) ⟨by omega, by rw [take_snoc he, take_snoc hf, heq]⟩
    · have hgo := ne_of he hf hef
      have hne : (!(e.op == f.op && (e.a == f.a && (e.b == f.b && (e.c == f.c && (e.imm == f.imm && true)))))) = true := by
        obtain ⟨e1, e2, e3, e4, e5⟩ := e
        obtain ⟨f1, f2, f3, f4, f5⟩ := f
        simp only [In.mk.injEq, not_and] at hef
        simp
        omega
      refine rr ?_
      refine en () trivial (hv := ?_)
      unfold alike
      dsimp only
      simp [packR, hgo]
  obtain rfl : k = xcode.length := by omega
  have e3 := eq_all heq (by omega)
  clear heq hK1 hlt hk
  refine rr ?_
  refine lo [2, 3] (fun k : Nat => [(6, .int .i64 (k : Int))]) (fun k => []) (fun k => k ≤ xexps.length ∧ xexps.take k = yexps.take k) (fun k => xexps.length - k) 0 ⟨by omega, by simp⟩ ?_
  rintro k ⟨hk, heq⟩ K1 hK1
  by_cases hlt : k < xexps.length
  · obtain ⟨e, he⟩ := some_at hlt
    obtain ⟨f, hf⟩ := some_at (l := yexps) (k := k) (by omega)
    have heA : ((syC xexps).drop ((k : Int).toNat * 2)).take 2 = [.string e.name, .int .i64 e.pl] := syC_all he _ (by omega)
    have heL := syC_len xexps
    have hfA : ((syC yexps).drop ((k : Int).toNat * 2)).take 2 = [.string f.name, .int .i64 f.pl] := syC_all hf _ (by omega)
    have hfL := syC_len yexps
    refine rr ?_
    refine dx [0, 1, 2, 3, 4, 5, 6, 7, 8, 9, 10] [1, 4, 6, 9] [] ?_
    refine rr ?_
    by_cases hef : e = f
    · subst hef
      refine rr ?_
      exact ro hK1 (k + 1) ⟨by omega, by rw [take_snoc he, take_snoc hf, heq]⟩
    · have hgo := ne_of he hf hef
      have hne : (!(decide (e.name = f.name) && (e.pl == f.pl && true))) = true := by
        obtain ⟨e1, e2⟩ := e
        obtain ⟨f1, f2⟩ := f
        simp only [Sy.mk.injEq, not_and] at hef
        simp only [Bool.not_eq_true', Bool.and_eq_false_iff, beq_eq_false_iff_ne, decide_eq_false_iff_not, ne_eq, Bool.and_true]
        by_cases hq : e1 = f1
        · exact .inr (hef hq)
        · exact .inl hq
      refine rr ?_
      refine en () trivial (hv := ?_)
      unfold alike
      dsimp only
      simp [packR, hgo]
  obtain rfl : k = xexps.length := by omega
  have e4 := eq_all heq (by omega)
  clear heq hK1 hlt hk
  refine rr ?_
  refine lo [2, 3] (fun k : Nat => [(7, .int .i64 (k : Int))]) (fun k => []) (fun k => k ≤ ximps.length ∧ ximps.take k = yimps.take k) (fun k => ximps.length - k) 0 ⟨by omega, by simp⟩ ?_
  rintro k ⟨hk, heq⟩ K1 hK1
  by_cases hlt : k < ximps.length
  · obtain ⟨e, he⟩ := some_at hlt
    obtain ⟨f, hf⟩ := some_at (l := yimps) (k := k) (by omega)
    have hx0 : (strC ximps)[(k : Int).toNat * 1]? = some (.string e) := by rw [Nat.mul_one]; exact strC_at he
    have hy0 : (strC yimps)[(k : Int).toNat * 1]? = some (.string f) := by rw [Nat.mul_one]; exact strC_at hf
    have hsl1 := strC_len ximps
    have hsl2 := strC_len yimps
    refine rr ?_
    refine dx [0, 1, 2, 3, 4, 5, 6, 7, 8, 9, 10] [1, 4, 6, 9] [] ?_
    refine rr ?_
    by_cases hef : e = f
    · subst hef
      refine rr ?_
      exact ro hK1 (k + 1) ⟨by omega, by rw [take_snoc he, take_snoc hf, heq]⟩
    · have hgo := ne_of he hf hef
      have hne : (!decide (e = f)) = true := by rw [decide_eq_false hef]; rfl
      refine rr ?_
      refine en () trivial (hv := ?_)
      unfold alike
      dsimp only
      simp [packR, hgo]
  obtain rfl : k = ximps.length := by omega
  have e5 := eq_all heq (by omega)
  clear heq hK1 hlt hk
  refine rr ?_
  refine lo [2, 3] (fun k : Nat => [(8, .int .i64 (k : Int))]) (fun k => []) (fun k => k ≤ xpats.length ∧ xpats.take k = ypats.take k) (fun k => xpats.length - k) 0 ⟨by omega, by simp⟩ ?_
  rintro k ⟨hk, heq⟩ K1 hK1
  by_cases hlt : k < xpats.length
  · obtain ⟨e, he⟩ := some_at hlt
    obtain ⟨f, hf⟩ := some_at (l := ypats) (k := k) (by omega)
    have heA : ((paC xpats).drop ((k : Int).toNat * 3)).take 3 = [.int .i64 e.pl, .int .i64 e.kind, .int .i64 e.n] := paC_all he _ (by omega)
    have heL := paC_len xpats
    have hfA : ((paC ypats).drop ((k : Int).toNat * 3)).take 3 = [.int .i64 f.pl, .int .i64 f.kind, .int .i64 f.n] := paC_all hf _ (by omega)
    have hfL := paC_len ypats
    refine rr ?_
    refine dx [0, 1, 2, 3, 4, 5, 6, 7, 8, 9, 10] [1, 4, 6, 9] [] ?_
    refine rr ?_
    by_cases hef : e = f
    · subst hef
      refine rr ?_
      exact ro hK1 (k + 1) ⟨by omega, by rw [take_snoc he, take_snoc hf, heq]⟩
    · have hgo := ne_of he hf hef
      have hne : (!(e.pl == f.pl && (e.kind == f.kind && (e.n == f.n && true)))) = true := by
        obtain ⟨e1, e2, e3⟩ := e
        obtain ⟨f1, f2, f3⟩ := f
        simp only [Pa.mk.injEq, not_and] at hef
        simp
        omega
      refine rr ?_
      refine en () trivial (hv := ?_)
      unfold alike
      dsimp only
      simp [packR, hgo]
  obtain rfl : k = xpats.length := by omega
  have e6 := eq_all heq (by omega)
  clear heq hK1 hlt hk
  refine rr ?_
  refine en () trivial (hv := ?_)
  unfold alike
  dsimp only
  simp [packR, h1, h2, e3, e4, e5, e6]
end Go.Proofs.Ytgmegfmabkkaoaa

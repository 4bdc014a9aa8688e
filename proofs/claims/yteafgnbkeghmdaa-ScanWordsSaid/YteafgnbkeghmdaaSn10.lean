/- The law's digits of a number. -/
import Derived.Test.YteafgnbkeghmdaaSp4
import Derived.Test.YteafgnbkeghmdaaSl3
import Derived.Test.YteafgnbkeghmdaaSxG
namespace Go.Proofs.Yteafgnbkeghmdaa
open Go Go.Sx Go.Sx.Chunk
set_option linter.unusedVariables false
set_option linter.unusedSimpArgs false

theorem bytC_dig (n : Nat) (v : Int) (hv : v = ((48 + n % 10 : Nat) : Int)) : [Value.int .u8 v] = bytC (bs [dig n]) ++ [] := by
  rw [hv]
  simp only [bytC, bs, List.map_cons, List.map_nil, List.append_nil, dig_nat]
theorem bs_one (n : Nat) : 1 = (bs [dig n]).size := rfl
set_option maxHeartbeats 1000000 in
theorem digitsC (n : Nat) (hn : n ≤ 1000000000) : FnC (α := Unit) Try.prog 12 [.int .i64 n] [] [] (fun _ => .string (bs (digL n))) (fun _ => []) (fun _ => True) := by
  refine fn_intro Try.func12 Try.ntmps12 rfl rfl rfl (fun w0 => ?_)
  try simp only [List.cons_append, List.nil_append, List.append_nil]
  have h1 : [Value.int .u8 (48 + (n : Int) % 10)] = bytC (bs [dig n]) ++ [] := bytC_dig n _ (by omega)
  have h2 := bs_one n
  refine rr ?_
  intro b _
  refine rr ?_
  refine w_sub [] rfl ?_
  refine w_loop (α := Nat × List UInt8) (fun x => [(0, .int .i64 (x.1 : Int)), (3, .string (bs x.2))]) (fun _ => []) (fun x => x.1 ≤ n ∧ x.2.length + x.1 ≤ n + 1 ∧ digL n = (if 10 ≤ x.1 then digL (x.1 / 10) else []) ++ x.2) (fun x => x.1) (n, [dig n]) ⟨rfl, rfl, trivial⟩ rfl ⟨Nat.le_refl _, by simp; omega, ?_⟩ ?_
  · dsimp only
    split
    · rename_i h; rw [digL_hi h]
    · rename_i h; rw [digL_lo (by omega)]; rfl
  rintro ⟨m, l⟩ ⟨hm, hl, hd⟩ K1 hK1
  dsimp only at hm hl hd ⊢
  by_cases h10 : 10 ≤ m
  · rw [if_pos h10] at hd
    have h1 : [Value.int .u8 (48 + (m : Int) / 10 % 10)] = bytC (bs [dig (m / 10)]) ++ [] := bytC_dig (m / 10) _ (by omega)
    have h2 := bs_one (m / 10)
    have h3 := bs_size l
    refine rr ?_
    intro b _
    refine rr ?_
    refine w_sub [] rfl ?_
    refine w_round hK1 (m / 10, dig (m / 10) :: l) ⟨by show m / 10 ≤ n; omega, by simp; omega, ?_⟩ (by show m / 10 < m; omega) rfl ⟨rfl, ?_, trivial⟩
    · show digL n = (if 10 ≤ m / 10 then digL (m / 10 / 10) else []) ++ dig (m / 10) :: l
      rw [hd]
      split
      · rename_i h; rw [digL_hi h]; simp
      · rename_i h; rw [digL_lo (by omega)]; rfl
    · show some (Value.string (bs [dig (m / 10)] ++ bs l)) = _
      rw [bs_append]; rfl
  · rw [if_neg h10, List.nil_append] at hd
    subst hd
    refine rr ?_
    exact we () [] trivial
end Go.Proofs.Yteafgnbkeghmdaa

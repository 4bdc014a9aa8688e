/- Objects as the document's; a fixed answer. -/
import Derived.Test.YtgmegfmabkkaoaaEq1
namespace Go.Proofs.Ytgmegfmabkkaoaa
open Go Go.Sx Go.Sx.Chunk
set_option linter.unusedVariables false
set_option linter.unusedSimpArgs false

/-- Where the copies lie. -/
abbrev RefY := Option Addr × Nat × Option Addr × Nat
def refO (o : Ob) (y : RefY) : Ob := ⟨o.name, o.ca, o.cc, o.code, o.data, y.1, y.2.1, o.exps, o.ia, o.ic, o.imps, y.2.2.1, y.2.2.2, o.pats⟩
def refR (o : Ob) (y : RefY) : List Chunk := [row y.1 y.2.1 52 2 o.exps.length (syC o.exps), row y.2.2.1 y.2.2.2 55 3 o.pats.length (paC o.pats)]
theorem ref_ok {o : Ob} (hok : OkOb o) (y : RefY) : OkOb (refO o y) := ⟨hok.name, hok.code, hok.exps, hok.imps, hok.pats, hok.ens, hok.ins⟩
theorem ref_canon (o : Ob) (y : RefY) : canon (refO o y) = canon o := rfl
set_option maxHeartbeats 8000000 in
theorem refC (o : Ob) (hok : OkOb o) : FnC Try.prog 9 [obG o] [] (obS o) (fun y : RefY => obG (refO o y)) (refR o) (fun _ => True) := by
  have hm : maxLen = 9223372036854775807 := rfl
  have h1 := hok.exps
  have h2 := hok.pats
  unfold obG obS refO
  dsimp only
  obtain ⟨on, oa, oc, ocode, od, oea, oec, oexps, oia, oic, oimps, opa, opc, opats⟩ := o
  dsimp only at h1 h2 ⊢
  have hsl1 := syC_len oexps
  have hsl2 := paC_len opats
  refine fn_intro Try.func9 Try.ntmps9 rfl rfl rfl (fun w0 => ?_)
  try simp only [List.cons_append, List.nil_append, List.append_nil]
  refine rr ?_
  intro b1 _
  refine rr ?_
  intro b2 _
  refine rr ?_
  intro b3 _
  refine rr ?_
  refine hv [blk b3 [.string on, .slice oa ocode.length oc, .int .i64 od, .slice none 0 0, .slice oia oimps.length oic, .slice none 0 0] 31, blk b1 [.string on, .slice oa ocode.length oc, .int .i64 od, .slice oea oexps.length oec, .slice oia oimps.length oic, .slice opa opats.length opc] 27, rng oea (syC oexps), rng opa (paC opats), row none 0 52 2 0 [], blk b2 [.string .empty, .slice none 0 0, .int .i64 0, .slice none 0 0, .slice none 0 0, .slice none 0 0] 31] ?_
  refine lo [1, 2, 3, 18, 19] (fun x : Nat × Option Addr × Nat => [(20, .int .i64 (x.1 : Int))]) (fun x => [(0, blk b3 [.string on, .slice oa ocode.length oc, .int .i64 od, .slice x.2.1 x.1 x.2.2, .slice oia oimps.length oic, .slice none 0 0] 31), (4, row x.2.1 x.2.2 52 2 x.1 (syC (oexps.take x.1)))])
    (fun x => x.1 ≤ oexps.length) (fun x => oexps.length - x.1) (0, none, 0) (by omega) ?_
  rintro ⟨i, ea, ec⟩ hi K2 hK2
  dsimp only at hi ⊢
  by_cases hil : i < oexps.length
  · obtain ⟨x, hx⟩ := some_at hil
    have hxA : ((syC oexps).drop ((i : Int).toNat * 2)).take 2 = [.string x.name, .int .i64 x.pl] := syC_all hx _ (by omega)
    have hxL := syC_len oexps
    have happ : syC (oexps.take i) ++ [.string x.name, .int .i64 x.pl] = syC (oexps.take (i + 1)) := by rw [take_snoc hx]; exact syC_snoc _ x
    refine rr ?_
    intro b9 _
    refine rr ?_
    intro b40 _
    refine rr ?_
    rintro ⟨a1, c1⟩ ⟨hc1, _⟩
    refine rr ?_
    rw [happ]
    exact ro hK2 (i + 1, a1, c1) (by show i + 1 ≤ oexps.length; omega)
  obtain rfl : i = oexps.length := by omega
  rw [List.take_length]
  refine rr ?_
  refine hv [blk b3 [.string on, .slice oa ocode.length oc, .int .i64 od, .slice ea oexps.length ec, .slice oia oimps.length oic, .slice none 0 0] 31, blk b1 [.string on, .slice oa ocode.length oc, .int .i64 od, .slice oea oexps.length oec, .slice oia oimps.length oic, .slice opa opats.length opc] 27, rng opa (paC opats), row ea ec 52 2 oexps.length (syC oexps), row none 0 55 3 0 [], blk b2 [.string .empty, .slice none 0 0, .int .i64 0, .slice none 0 0, .slice none 0 0, .slice none 0 0] 31] ?_
  refine lo [2, 3, 32, 33] (fun x : Nat × Option Addr × Nat => [(34, .int .i64 (x.1 : Int))]) (fun x => [(0, blk b3 [.string on, .slice oa ocode.length oc, .int .i64 od, .slice ea oexps.length ec, .slice oia oimps.length oic, .slice x.2.1 x.1 x.2.2] 31), (4, row x.2.1 x.2.2 55 3 x.1 (paC (opats.take x.1)))])
    (fun x => x.1 ≤ opats.length) (fun x => opats.length - x.1) (0, none, 0) (by omega) ?_
  rintro ⟨j, pa, pc⟩ hj K3 hK3
  dsimp only at hj ⊢
  by_cases hjl : j < opats.length
  · obtain ⟨x, hx⟩ := some_at hjl
    have hxA : ((paC opats).drop ((j : Int).toNat * 3)).take 3 = [.int .i64 x.pl, .int .i64 x.kind, .int .i64 x.n] := paC_all hx _ (by omega)
    have hxL := paC_len opats
    have happ : paC (opats.take j) ++ [.int .i64 x.pl, .int .i64 x.kind, .int .i64 x.n] = paC (opats.take (j + 1)) := by rw [take_snoc hx]; exact paC_snoc _ x
    refine rr ?_
    intro b9 _
    refine rr ?_
    intro b40 _
    refine rr ?_
    rintro ⟨a1, c1⟩ ⟨hc1, _⟩
    refine rr ?_
    rw [happ]
    exact ro hK3 (j + 1, a1, c1) (by show j + 1 ≤ opats.length; omega)
  obtain rfl : j = opats.length := by omega
  rw [List.take_length]
  refine rr ?_
  exact en (ea, ec, pa, pc) trivial (hp := by unfold refR; dsimp only; (repeat (first | exact Has.nil | (apply Has.cons; focus ((repeat (first | exact pick_here | apply pick_there)); done)) | apply Has.nrow | apply Has.gen0)))
def aO : Ob := ⟨mkB [97], none, 0, [], 0, none, 0, [], none, 0, [], none, 0, []⟩
theorem aO_ok : OkOb aO := ⟨by decide, by decide, by decide, by decide, by decide, fun x hx => by simp [aO] at hx, fun x hx => by simp [aO] at hx⟩
theorem aO_good : goodO aO = true := by decide
set_option maxHeartbeats 8000000 in
theorem awakeC : FnC (α := Unit) Try.prog 11 [] [] [] (fun _ => .bool true) (fun _ => []) (fun _ => True) := by
  have hp := putC aO aO_ok
  have ht := takeC (putF aO) (by decide)
  obtain ⟨h1, h2⟩ := takeF_put aO_good
  rw [aO_good] at hp
  rw [h1, h2] at ht
  simp only [if_true] at hp ht
  have hsz := mkB_size (putF aO)
  have hln : (putF aO).length = 18 := by decide
  rw [hln] at hsz
  have hx := mkB_take (putF aO) 4
  have h4 : (putF aO).take 4 = [68, 83, 1, 97] := by decide
  rw [h4] at hx
  clear h4 hln h1 h2
  generalize mkB (putF aO) = s at hp ht hsz hx
  unfold obG obS aO at hp
  dsimp only at hp
  have hd : decide (s.extract 0 (4 : Int).toNat = mkB [68, 83, 1, 97]) = true := by rw [show (4 : Int).toNat = 4 from rfl, hx, decide_eq_true rfl]
  have hn1 := rightNameC (mkB [97, 49]) (by decide)
  have hn2 := rightNameC (mkB [49, 97]) (by decide)
  rw [show nameF (mkB [97, 49]) = true by decide] at hn1
  rw [show nameF (mkB [49, 97]) = false by decide] at hn2
  refine fn_intro Try.func11 Try.ntmps11 rfl rfl rfl (fun w0 => ?_)
  try simp only [List.cons_append, List.nil_append, List.append_nil]
  refine rr ?_
  refine cl (hp) ?_
  intro _ _
  try simp only [List.cons_append, List.nil_append, List.append_nil]
  refine rr ?_
  refine cl (ht) ?_
  intro o ho
  try simp only [List.cons_append, List.nil_append, List.append_nil]
  have hn : o.name = mkB [97] := by
    have := congrArg Ob.name ho
    exact this
  unfold obG obR
  rw [hn]
  refine rr ?_
  intro b1 _
  refine rr ?_
  refine cl (hn1) ?_
  intro _ _
  try simp only [List.cons_append, List.nil_append, List.append_nil]
  refine rr ?_
  refine cl (hn2) ?_
  intro _ _
  try simp only [List.cons_append, List.nil_append, List.append_nil]
  refine rr ?_
  exact en () trivial
end Go.Proofs.Ytgmegfmabkkaoaa

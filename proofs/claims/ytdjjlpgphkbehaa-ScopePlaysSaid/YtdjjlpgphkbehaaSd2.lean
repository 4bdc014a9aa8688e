/- The table of scopes as a whole: its contracts over one state. -/
import Derived.Test.YtdjjlpgphkbehaaSd1
namespace Go.Proofs.Ytdjjlpgphkbehaa
open Go Go.Sx Go.Sx.Chunk
set_option linter.unusedVariables false
set_option linter.unusedSimpArgs false

/-- Where a table's two rows lie. -/
structure Cp where
  mk ::
  (ae : Option Addr) (ce : Nat) (ab : Option Addr) (cb : Nat)
/-- A table: its entries and where each scope begins. -/
def tbH (b : Nat) (es : List (ByteArray × Int)) (bs : List Nat) (x : Cp) : List Chunk := [blk b [.slice x.ae es.length x.ce, .slice x.ab bs.length x.cb] 27, row x.ae x.ce 51 2 es.length (entC es), row x.ab x.cb 3 1 bs.length (natC bs)]
/-- Small enough. -/
def okT (es : List (ByteArray × Int)) (bs : List Nat) : Prop := es.length ≤ 100000 ∧ bs.length ≤ 100000 ∧ ∀ v ∈ bs, v ≤ es.length
instance (es : List (ByteArray × Int)) (bs : List Nat) : Decidable (okT es bs) := by unfold okT; exact inferInstance
def findT (es : List (ByteArray × Int)) (bs : List Nat) (name : ByteArray) : Int × Nat × Bool := findG es bs name es.length bs.length
def findV (r : Int × Nat × Bool) : Value := .tuple #[.int .i64 r.1, .int .i64 r.2.1, .bool r.2.2]
def ptrV (b : Nat) : Value := .pointer (some ⟨b, 0, none⟩)
def defE (es : List (ByteArray × Int)) (bs : List Nat) (name : ByteArray) (v : Int) : List (ByteArray × Int) := if defOk es bs name then es ++ [(name, v)] else es
def clsE (es : List (ByteArray × Int)) (bs : List Nat) : List (ByteArray × Int) := if bs.length = 0 then es else es.take (bs.getLastD 0)

theorem small {es : List (ByteArray × Int)} {bs : List Nat} (h : okT es bs) : ∀ v ∈ bs, v ≤ 1000000 := fun v hv => by have := h.2.2 v hv; have := h.1; omega

theorem depthC (b : Nat) (x : Cp) (es : List (ByteArray × Int)) (bs : List Nat) : FnC Try.prog 12 [ptrV b] (tbH b es bs x) [] (fun (y : Cp) => .int .i64 bs.length) (fun y => tbH b es bs y) (fun _ => True) :=
  ((depth_spec b 0 _ 27 x.ab bs.length x.cb rfl).frame [0] rfl trivial (fun _ => rfl)).map (fun _ _ => ⟨x, rfl, ⟨[0, 0, 0], [], rfl⟩, trivial⟩)
theorem findC (b : Nat) (x : Cp) (es : List (ByteArray × Int)) (bs : List Nat) (name : ByteArray) (r : Int × Nat × Bool) (hx : okT es bs) (hr : findT es bs name = r) : FnC Try.prog 10 [ptrV b, .string name] (tbH b es bs x) [] (fun (y : Cp) => findV r) (fun y => tbH b es bs y) (fun _ => True) := by
  subst hr
  exact (find_spec b 0 _ 27 x.ae x.ab _ x.ce _ x.cb es bs name rfl rfl rfl rfl (Nat.le_trans hx.1 (by decide)) (Nat.le_trans hx.2.1 (by decide)) (small hx)).map (fun _ _ => ⟨x, rfl, ⟨[0, 0, 0], [], rfl⟩, trivial⟩)
theorem openC (b : Nat) (x : Cp) (es : List (ByteArray × Int)) (bs bs' : List Nat) (hx : okT es bs) (h : bs ++ [es.length] = bs') : FnC Try.prog 8 [ptrV b] (tbH b es bs x) [] (fun (y : Cp) => .tuple #[]) (fun y => tbH b es bs' y) (fun y => True) := by
  subst h
  exact ((open_spec b 0 _ 27 x.ae x.ab es.length x.ce bs.length x.cb (natC bs) rfl rfl (Nat.le_trans hx.2.1 (by decide))).frame [0, 1] rfl trivial (fun _ => rfl)).map (fun y hy => ⟨⟨x.ae, x.ce, y.1, y.2⟩, rfl, ⟨[0, 1, 0], [], by simp [picks, Sx.pick, tbH, natC]⟩, trivial⟩)
theorem defineC (b : Nat) (x : Cp) (es es' : List (ByteArray × Int)) (bs : List Nat) (name : ByteArray) (v : Int) (r : Bool) (hx : okT es bs) (hr : defOk es bs name = r) (he : defE es bs name v = es') : FnC Try.prog 9 [ptrV b, .string name, .int .i64 v] (tbH b es bs x) [] (fun (y : Cp) => .bool r) (fun y => tbH b es' bs y) (fun y => True) := by
  subst hr he
  unfold defE
  cases h : defOk es bs name with
  | true =>
    exact (define_spec b 0 _ 27 x.ae x.ab _ x.ce _ x.cb es bs name v rfl rfl rfl rfl (Nat.le_trans hx.1 (by decide)) (Nat.le_trans hx.2.1 (by decide)) (small hx) h).map (fun y hy => ⟨⟨y.1, y.2, x.ab, x.cb⟩, rfl, ⟨[0, 0, 0], [], by simp [picks, Sx.pick, tbH]⟩, trivial⟩)
  | false =>
    exact (define_no b 0 _ 27 x.ae x.ab _ x.ce _ x.cb es bs name v rfl rfl rfl rfl (Nat.le_trans hx.1 (by decide)) (Nat.le_trans hx.2.1 (by decide)) (small hx) h).map (fun y hy => ⟨x, rfl, ⟨[0, 0, 0], [], by simp [picks, Sx.pick, tbH]⟩, trivial⟩)
theorem closeC (b : Nat) (x : Cp) (es es' : List (ByteArray × Int)) (bs bs' : List Nat) (r : Bool) (hx : okT es bs) (hr : (bs.length != 0) = r) (he : clsE es bs = es') (hb : bs.dropLast = bs') : FnC Try.prog 11 [ptrV b] (tbH b es bs x) [] (fun (y : Cp) => .bool r) (fun y => tbH b es' bs' y) (fun y => True) := by
  subst hr he hb
  obtain ⟨ae, ce, ab, cb⟩ := x
  unfold clsE
  rcases List.eq_nil_or_concat bs with rfl | ⟨bs0, c, rfl⟩
  · exact ((close_no b 0 _ 27 ab cb rfl).frame [0] rfl trivial (fun _ => rfl)).map (fun y hy => ⟨⟨ae, ce, ab, cb⟩, rfl, ⟨[0, 0, 0], [], by simp [picks, Sx.pick, tbH]⟩, trivial⟩)
  · simp only [okT] at hx
    simp only [List.concat_eq_append] at hx ⊢
    have hlen : (bs0 ++ [c]).length = bs0.length + 1 := by simp
    have hc : c ≤ es.length := hx.2.2 c (by simp)
    have := close_spec b 0 [.slice ae es.length ce, .slice ab (bs0 ++ [c]).length cb] 27 ae ab es.length ce bs0.length cb c es (bs0 ++ [c]) rfl (by rw [hlen]; rfl) rfl (by simp) (by omega) (by simp at hx; omega) (by simp) hc
    rw [← hlen] at this
    have hv : ((bs0 ++ [c]).length != 0) = true := by simp
    simp only [tbH, hv]
    refine this.map (fun y hy => ⟨⟨y.1, y.2, ab, cb⟩, rfl, ⟨[0, 0, 0], [], ?_⟩, trivial⟩)
    simp [picks, Sx.pick, Nat.min_eq_left hc]
end Go.Proofs.Ytdjjlpgphkbehaa

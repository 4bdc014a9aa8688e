/- Bytes that are written: the writer's methods. -/
import Derived.Test.YtgmegfmabkkaoaaOb4
namespace Go.Proofs.Ytgmegfmabkkaoaa
open Go Go.Sx Go.Sx.Chunk
set_option linter.unusedVariables false
set_option linter.unusedSimpArgs false

abbrev mkB (l : List UInt8) : ByteArray := ⟨l.toArray⟩
theorem mkB_size (l : List UInt8) : (mkB l).size = l.length := by simp [ByteArray.size]
theorem txt_mkB (l : List UInt8) : txt (mkB l) = l := by simp [txt]
theorem mkB_txt (s : ByteArray) : mkB (txt s) = s := by
  cases s; simp [txt]
theorem mkB_app (a b : List UInt8) : mkB a ++ mkB b = mkB (a ++ b) := by
  apply ByteArray.ext
  simp
theorem mkB_inj {a b : List UInt8} : mkB a = mkB b ↔ a = b := ⟨fun h => by have := congrArg txt h; rwa [txt_mkB, txt_mkB] at this, fun h => by rw [h]⟩
theorem mkB_ext (l : List UInt8) (a b : Nat) : (mkB l).extract a b = mkB ((l.drop a).take (b - a)) := by
  apply ByteArray.ext
  rw [ByteArray.data_extract]
  apply Array.ext'
  rw [Array.toList_extract]
theorem mkB_take (l : List UInt8) (n : Nat) : (mkB l).extract 0 n = mkB (l.take n) := by rw [mkB_ext]; simp
theorem mkB_drop (l : List UInt8) (n : Nat) : (mkB l).extract n (mkB l).size = mkB (l.drop n) := by
  rw [mkB_ext, mkB_size, List.take_of_length_le (by simp)]
def u8C (l : List UInt8) : List Value := l.map fun c => .int .u8 (c.toNat : Int)
theorem u8C_len (l : List UInt8) : (u8C l).length = l.length := by simp [u8C]
theorem u8C_app (a b : List UInt8) : u8C (a ++ b) = u8C a ++ u8C b := by simp [u8C]
theorem bytC_txt (s : ByteArray) : bytC s = u8C (txt s) := rfl
def b8 (n : Int) : UInt8 := UInt8.ofNat (n % 256).toNat
theorem b8_nat (n : Int) : ((b8 n).toNat : Int) = n % 256 := by
  unfold b8
  rw [UInt8.toNat_ofNat']
  omega
theorem wrap_u8 (n : Int) : IntKind.u8.wrap n = ((b8 n).toNat : Int) := by
  rw [b8_nat]
  simp [IntKind.wrap, IntKind.signed, IntKind.bits]
def fourB (n : Int) : List UInt8 := [b8 n, b8 (n / 256), b8 (n / 65536), b8 (n / 16777216)]
/-- What a writer has. -/
def wrH (w : Nat) (wa : Option Addr) (wc : Nat) (l : List UInt8) : List Chunk := [blk w [.slice wa l.length wc] 59, row wa wc 5 1 l.length (u8C l)]
def dsF : List UInt8 := [68, 83]
/-- What a new one has. -/
def wr0 (w b : Nat) : List Chunk := [blk w [.slice (some ⟨b, 0, none⟩) 2 2] 59, fro b (u8C dsF) 5]
theorem oneC (w : Nat) (wa : Option Addr) (wc : Nat) (l : List UInt8) (n : Int) (hl : l.length ≤ 1000000000) :
    FnC Try.prog 24 [.pointer (some ⟨w, 0, none⟩), .int .i64 n] (wrH w wa wc l) [] (fun x : Option Addr × Nat => .tuple #[]) (fun x => wrH w x.1 x.2 (l ++ [b8 n])) (fun _ => True) := by
  unfold wrH
  have hm : maxLen = 9223372036854775807 := rfl
  have hb : ((b8 n).toNat : Int) = IntKind.u8.wrap n := (wrap_u8 n).symm
  have hn := b8_nat n
  have e : u8C (l ++ [b8 n]) = u8C l ++ [.int .u8 ((b8 n).toNat : Int)] := by rw [u8C_app]; rfl
  have e2 : (l ++ [b8 n]).length = l.length + 1 := by simp
  rw [e, e2, hb]
  refine fn_intro Try.func24 Try.ntmps24 rfl rfl rfl (fun w0 => ?_)
  try simp only [List.cons_append, List.nil_append, List.append_nil]
  refine rr ?_
  intro b11 _
  refine rr ?_
  rintro ⟨a1a, a1c⟩ ⟨a1h, _⟩
  refine rr ?_
  exact en (a1a, a1c) trivial
theorem one0C (w b : Nat) (n : Int) :
    FnC Try.prog 24 [.pointer (some ⟨w, 0, none⟩), .int .i64 n] (wr0 w b) [] (fun x : Option Addr × Nat => .tuple #[]) (fun x => wrH w x.1 x.2 (dsF ++ [b8 n])) (fun _ => True) := by
  unfold wrH wr0
  have hb : ((b8 n).toNat : Int) = IntKind.u8.wrap n := (wrap_u8 n).symm
  have e : u8C (dsF ++ [b8 n]) = u8C dsF ++ [.int .u8 ((b8 n).toNat : Int)] := by rw [u8C_app]; rfl
  have e2 : (dsF ++ [b8 n]).length = 2 + 1 := rfl
  rw [e, e2, hb]
  refine fn_intro Try.func24 Try.ntmps24 rfl rfl rfl (fun w0 => ?_)
  try simp only [List.cons_append, List.nil_append, List.append_nil]
  refine rr ?_
  intro b11 _
  refine rr ?_
  rintro ⟨a1a, a1c⟩ ⟨a1h, _⟩
  refine rr ?_
  exact en (a1a, a1c) trivial
theorem fourC (w : Nat) (wa : Option Addr) (wc : Nat) (l : List UInt8) (n : Int) (hl : l.length ≤ 1000000000) :
    FnC Try.prog 22 [.pointer (some ⟨w, 0, none⟩), .int .i64 n] (wrH w wa wc l) [] (fun x : Option Addr × Nat => .tuple #[]) (fun x => wrH w x.1 x.2 (l ++ fourB n)) (fun _ => True) := by
  unfold wrH
  have hm : maxLen = 9223372036854775807 := rfl
  have e : u8C (l ++ fourB n) = u8C l ++ [.int .u8 (IntKind.u8.wrap n), .int .u8 (IntKind.u8.wrap (n / 2 ^ min (Int.toNat 8) IntKind.i64.bits)), .int .u8 (IntKind.u8.wrap (n / 2 ^ min (Int.toNat 16) IntKind.i64.bits)), .int .u8 (IntKind.u8.wrap (n / 2 ^ min (Int.toNat 24) IntKind.i64.bits))] := by
    rw [u8C_app, wrap_u8, wrap_u8, wrap_u8, wrap_u8, show (2 : Int) ^ min (Int.toNat 8) IntKind.i64.bits = 256 by decide, show (2 : Int) ^ min (Int.toNat 16) IntKind.i64.bits = 65536 by decide, show (2 : Int) ^ min (Int.toNat 24) IntKind.i64.bits = 16777216 by decide]
    rfl
  have e2 : (l ++ fourB n).length = l.length + 4 := by simp [fourB]
  rw [e, e2]
  refine fn_intro Try.func22 Try.ntmps22 rfl rfl rfl (fun w0 => ?_)
  try simp only [List.cons_append, List.nil_append, List.append_nil]
  refine rr ?_
  intro b20 _
  refine rr ?_
  rintro ⟨a1a, a1c⟩ ⟨a1h, _⟩
  refine rr ?_
  exact en (a1a, a1c) trivial
def nameB (s : ByteArray) : List UInt8 := b8 (s.size : Int) :: txt s
theorem nameWC (w : Nat) (wa : Option Addr) (wc : Nat) (l : List UInt8) (s : ByteArray) (hl : l.length ≤ 100000000) (hs : s.size ≤ 100000000) :
    FnC Try.prog 21 [.pointer (some ⟨w, 0, none⟩), .string s] (wrH w wa wc l) [] (fun x : Option Addr × Nat => .tuple #[]) (fun x => wrH w x.1 x.2 (l ++ nameB s)) (fun _ => True) := by
  refine fn_intro Try.func21 Try.ntmps21 rfl rfl rfl (fun w0 => ?_)
  try simp only [List.cons_append, List.nil_append, List.append_nil]
  refine rr ?_
  refine cl (oneC w wa wc l (s.size : Int) (by omega)) ?_ (hp := by unfold wrH; (repeat (first | exact Has.nil | (apply Has.cons; focus ((repeat (first | exact pick_here | apply pick_there)); done)) | apply Has.nrow | apply Has.gen0)))
  rintro ⟨xa, xc⟩ _
  unfold wrH
  simp only [List.cons_append, List.nil_append, List.append_nil]
  have e : l ++ nameB s = (l ++ [b8 (s.size : Int)]) ++ txt s := by simp [nameB]
  have e2 : ((l ++ [b8 (s.size : Int)]) ++ txt s).length = (l ++ [b8 (s.size : Int)]).length + s.size := by rw [List.length_append, txt_len]
  have hl2 : (l ++ [b8 (s.size : Int)]).length = l.length + 1 := by simp
  rw [e, e2, u8C_app (l ++ [b8 (s.size : Int)]) (txt s)]
  refine rr ?_
  rintro ⟨ya, yc⟩ hy
  refine rr ?_
  exact en (ya, yc) trivial
theorem nameW0C (w b : Nat) (s : ByteArray) (hs : s.size ≤ 100000000) :
    FnC Try.prog 21 [.pointer (some ⟨w, 0, none⟩), .string s] (wr0 w b) [] (fun x : Option Addr × Nat => .tuple #[]) (fun x => wrH w x.1 x.2 (dsF ++ nameB s)) (fun _ => True) := by
  refine fn_intro Try.func21 Try.ntmps21 rfl rfl rfl (fun w0 => ?_)
  try simp only [List.cons_append, List.nil_append, List.append_nil]
  refine rr ?_
  refine cl (one0C w b (s.size : Int)) ?_ (hp := by unfold wr0; (repeat (first | exact Has.nil | (apply Has.cons; focus ((repeat (first | exact pick_here | apply pick_there)); done)) | apply Has.nrow | apply Has.gen0)))
  rintro ⟨xa, xc⟩ _
  unfold wrH
  simp only [List.cons_append, List.nil_append, List.append_nil]
  have e : dsF ++ nameB s = (dsF ++ [b8 (s.size : Int)]) ++ txt s := by simp [nameB]
  have e2 : ((dsF ++ [b8 (s.size : Int)]) ++ txt s).length = (dsF ++ [b8 (s.size : Int)]).length + s.size := by rw [List.length_append, txt_len]
  have hl2 : (dsF ++ [b8 (s.size : Int)]).length = 3 := rfl
  rw [e, e2, u8C_app (dsF ++ [b8 (s.size : Int)]) (txt s)]
  refine rr ?_
  rintro ⟨ya, yc⟩ hy
  refine rr ?_
  exact en (ya, yc) trivial
end Go.Proofs.Ytgmegfmabkkaoaa

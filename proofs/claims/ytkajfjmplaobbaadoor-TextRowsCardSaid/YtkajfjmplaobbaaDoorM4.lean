/- Texts of the proof, in their order: Shelf, Sh1, Tw1, Tw2, Tw3, Tw4, Tw5, Tw6, Tw7, Tr1, Tr2, Tr3, Tr4, Tp1. -/
import Derived.Shelf.Strings.Builder1
import Derived.Shelf.Strings.Builder2
import Derived.Shelf.Strings.OnBuilder
import Derived.Shelf.Strings.BuilderF
import Derived.Shelf.Strings.BuilderK
import Derived.Shelf.Strconv.Atoi
import Derived.Shelf.Strconv.Itoa0
import Derived.Shelf.Strconv.Itoa1
import Derived.Shelf.LaysM
import Derived.Shelf.Strconv.Itoa2
import Derived.Shelf.Strconv.Itoa3
import Derived.Shelf.Strconv.AtoiErrFast
import Derived.Shelf.Strconv.ParseIntEmpty
import Derived.Shelf.Strconv.AtoiFail
import Derived.Shelf.Strconv.Clone
import Derived.Shelf.Strconv.SyntaxError
import Derived.Shelf.LaysC
import Derived.Shelf.Strconv.ToError
import Derived.Shelf.Strconv.AtoiErr
import Derived.Shelf.Strconv.ErrVar
import Derived.Shelf.Strconv.Lower
import Derived.Shelf.Strconv.ParseUint10
import Derived.Shelf.Strconv.ParseUint10Empty
import Derived.Shelf.Strconv.ParseUint10Any
import Derived.Shelf.Strconv.ParseInt10
import Derived.Shelf.Strconv.AtoiLong
import Derived.Shelf.Strconv.AtoiInnerAll
import Derived.Shelf.Strconv.RangeError
import Derived.Shelf.Strconv.ToErrorRange
import Derived.Shelf.Strconv.AtoiAll
import Derived.Shelf.Strings.Search1
import Derived.Shelf.Strings.Search2
import Derived.Shelf.Strings.Search3
import Derived.Shelf.Strings.Cut
import Derived.Shelf.Strings.Count
import Derived.Shelf.Strings.Shaped
import Derived.Shelf.Strings.Prefix
import Derived.Shelf.Strings.Split
import Derived.Shelf.Strings.Fields
import Derived.Shelf.Unicode.Latin
import Derived.Shelf.Unicode.DecodeSlow
import Derived.Shelf.Unicode.Is16White
import Derived.Shelf.Unicode.IsSpaceAny
import Derived.Shelf.Unicode.Is16Any
import Derived.Shelf.Unicode.Is32Any
import Derived.Shelf.Unicode.ExclAny
import Derived.Shelf.Slices.Turned
import Derived.Test.YtkajfjmplaobbaaDoorProg
import Derived.Test.YtkajfjmplaobbaaDoorM3
set_option linter.unusedVariables false
set_option linter.unusedSimpArgs false
namespace Go.Proofs
open Go.Shelf
def Tryd.lays169_ren : Go.Shelf.Ren := ⟨fun | 169 => 33 | n => n, fun | 70 => 55 | 9 => 9 | 0 => 0 | 72 => 57 | 37 => 54 | 127 => 69 | 3 => 3 | 5 => 5 | n => n, fun | n => n⟩
theorem Tryd.lays169 : Go.Proofs.Lays.n169 Tryd.prog Tryd.lays169_ren := {
  mixed := by kernel_rfl
  f169 := Tryd.func33.trans (congrArg some (by kernel_rfl))
  t0 := Tryd.underlying0
  a0 := Tryd.isAgg0
  z0 := Tryd.sizeOf0
  v0 := Tryd.zeroValue0
  t3 := Tryd.underlying3
  a3 := Tryd.isAgg3
  z3 := Tryd.sizeOf3
  v3 := Tryd.zeroValue3
  t9 := Tryd.underlying9
  a9 := Tryd.isAgg9
  z9 := Tryd.sizeOf9
  v9 := Tryd.zeroValue9
  t37 := Tryd.underlying54
  a37 := Tryd.isAgg54
  z37 := Tryd.sizeOf54
  v37 := Tryd.zeroValue54
  t70 := Tryd.underlying55
  a70 := Tryd.isAgg55
  z70 := Tryd.sizeOf55
  v70 := Tryd.zeroValue55
  t72 := Tryd.underlying57
  a72 := Tryd.isAgg57
  z72 := Tryd.sizeOf57
  v72 := Tryd.zeroValue57
  t127 := Tryd.underlying69
  a127 := Tryd.isAgg69
  z127 := Tryd.sizeOf69
  v127 := Tryd.zeroValue69 }
theorem Tryd.Builder_Extra_169 : Builder.Extra Tryd.prog Tryd.lays169_ren := {
  sizeBuilder := by kernel_rfl
  liesBuilder := by kernel_rfl
  t5 := Tryd.underlying5
  a5 := Tryd.isAgg5
  z5 := Tryd.sizeOf5
  v5 := Tryd.zeroValue5
  infoByte := by kernel_rfl
  cellsByte := by kernel_rfl
  sizeByte := by kernel_rfl
  neB5 := by decide }
open Go.RowKit in
/-- (*strings.Builder).String: "String returns the accumulated string.": OF A BUILDER THAT HOLDS AT LEAST ONE BYTE. ✋ THE MODEL FREEZES THOSE BYTES IN THE BUFFER (unsafe.String): a later write INTO them ends the model's run without an answer; a later append BEHIND them goes on. The statement's order of evaluation is drawn: one draw. (LAID: no walk: one application.) -/
theorem Tryd.Builder_String (B b : Nat) (l : List UInt8) (w : World) (h : Lib.IsBuilder 57 5 B b (Lib.byteCells l) w) (h0 : l ≠ []) :
    Calls Tryd.prog 33 #[.pointer (some ⟨b, 0, none⟩)] w fun e w' => e = .returned (.string ⟨l.toArray⟩) ∧ Below B w w' := Any.Builder_String Tryd.lays169 Tryd.Builder_Extra_169 B b l w h h0
open Go.RowKit in
/-- (*strings.Builder).String OF A BUILDER THAT HOLDS NO BYTE: the empty string. (Its buffer is nil, or a row of which it has taken nothing yet; where that row has NO capacity the model lays one new block for unsafe.SliceData's 'some address'.) One draw. (LAID: no walk: one application.) -/
theorem Tryd.Builder_String_empty (B b : Nat) (w : World) (h : Lib.IsBuilder 57 5 B b [] w) (hBw : B ≤ w.heap.size) :
    Calls Tryd.prog 33 #[.pointer (some ⟨b, 0, none⟩)] w fun e w' => e = .returned (.string ⟨#[]⟩) ∧ Below B w w' := Any.Builder_String_empty Tryd.lays169 Tryd.Builder_Extra_169 B b w h hBw
open Go.RowKit in
/-- (*strings.Builder).String: "String returns the accumulated string.": WHATEVER THE BUILDER HOLDS. (LAID: no walk: one application.) -/
theorem Tryd.Builder_String_any (B b : Nat) (l : List UInt8) (w : World) (h : Lib.IsBuilder 57 5 B b (Lib.byteCells l) w) (hBw : B ≤ w.heap.size) :
    Calls Tryd.prog 33 #[.pointer (some ⟨b, 0, none⟩)] w fun e w' => e = .returned (.string ⟨l.toArray⟩) ∧ Below B w w' := Any.Builder_String_any Tryd.lays169 Tryd.Builder_Extra_169 B b l w h hBw
def Tryd.lays241_ren : Go.Shelf.Ren := ⟨fun | 241 => 50 | 277 => 67 | n => n, fun | 70 => 55 | 3 => 3 | 0 => 0 | 72 => 57 | 37 => 54 | 5 => 5 | n => n, fun | n => n⟩
theorem Tryd.lays241 : Go.Proofs.Lays.n241 Tryd.prog Tryd.lays241_ren := {
  mixed := by kernel_rfl
  f241 := Tryd.func50.trans (congrArg some (by kernel_rfl))
  f277 := Tryd.func67.trans (congrArg some (by kernel_rfl))
  t0 := Tryd.underlying0
  a0 := Tryd.isAgg0
  z0 := Tryd.sizeOf0
  v0 := Tryd.zeroValue0
  t3 := Tryd.underlying3
  a3 := Tryd.isAgg3
  z3 := Tryd.sizeOf3
  v3 := Tryd.zeroValue3
  t37 := Tryd.underlying54
  a37 := Tryd.isAgg54
  z37 := Tryd.sizeOf54
  v37 := Tryd.zeroValue54
  t70 := Tryd.underlying55
  a70 := Tryd.isAgg55
  z70 := Tryd.sizeOf55
  v70 := Tryd.zeroValue55
  t72 := Tryd.underlying57
  a72 := Tryd.isAgg57
  z72 := Tryd.sizeOf57
  v72 := Tryd.zeroValue57 }
theorem Tryd.Builder_Extra_241 : Builder.Extra Tryd.prog Tryd.lays241_ren := {
  sizeBuilder := by kernel_rfl
  liesBuilder := by kernel_rfl
  t5 := Tryd.underlying5
  a5 := Tryd.isAgg5
  z5 := Tryd.sizeOf5
  v5 := Tryd.zeroValue5
  infoByte := by kernel_rfl
  cellsByte := by kernel_rfl
  sizeByte := by kernel_rfl
  neB5 := by decide }
open Go.RowKit in
/-- (*strings.Builder).grow (no doc but "grow copies the buffer to a new, larger buffer so that there are at least n bytes of capacity beyond len(b.buf)."): AT A BUILDER WITHOUT A BUFFER: a new row of whatever bytes for its buffer, none of them its own yet. Three draws. (LAID: no walk: one application.) -/
theorem Tryd.Builder_grow_fresh (B b n : Nat) (w : World) (hB : B ≤ b) (hbk : w.heap[b]? = some (.cells #[.pointer (some ⟨b, 0, none⟩), .slice none 0 0] 57 (0, 0))) (hBw : B ≤ w.heap.size) (hn : n ≤ 281474976710656) :
    Calls Tryd.prog 50 #[.pointer (some ⟨b, 0, none⟩), .int .i64 n] w fun e w' => e = .returned (.tuple #[]) ∧ (Lib.BuilderAt 57 5 B b (.pointer (some ⟨b, 0, none⟩)) [] w' ∧ Below B w w') := Any.Builder_grow_fresh Tryd.lays241 Tryd.Builder_Extra_241 B b n w hB hbk hBw hn
def Tryd.lays165_ren : Go.Shelf.Ren := ⟨fun | 165 => 39 | 240 => 45 | 241 => 50 | 276 => 61 | 277 => 67 | n => n, fun | 70 => 55 | 3 => 3 | 0 => 0 | 4 => 4 | 9 => 9 | 20 => 20 | 72 => 57 | 37 => 54 | 164 => 83 | 5 => 5 | n => n, fun | n => n⟩
theorem Tryd.lays165 : Go.Proofs.Lays.n165 Tryd.prog Tryd.lays165_ren := {
  mixed := by kernel_rfl
  f165 := Tryd.func39.trans (congrArg some (by kernel_rfl))
  f240 := Tryd.func45.trans (congrArg some (by kernel_rfl))
  f241 := Tryd.func50.trans (congrArg some (by kernel_rfl))
  f276 := Tryd.func61.trans (congrArg some (by kernel_rfl))
  f277 := Tryd.func67.trans (congrArg some (by kernel_rfl))
  t0 := Tryd.underlying0
  a0 := Tryd.isAgg0
  z0 := Tryd.sizeOf0
  v0 := Tryd.zeroValue0
  t3 := Tryd.underlying3
  a3 := Tryd.isAgg3
  z3 := Tryd.sizeOf3
  v3 := Tryd.zeroValue3
  t4 := Tryd.underlying4
  a4 := Tryd.isAgg4
  z4 := Tryd.sizeOf4
  v4 := Tryd.zeroValue4
  t9 := Tryd.underlying9
  a9 := Tryd.isAgg9
  z9 := Tryd.sizeOf9
  v9 := Tryd.zeroValue9
  t20 := Tryd.underlying20
  a20 := Tryd.isAgg20
  z20 := Tryd.sizeOf20
  v20 := Tryd.zeroValue20
  t37 := Tryd.underlying54
  a37 := Tryd.isAgg54
  z37 := Tryd.sizeOf54
  v37 := Tryd.zeroValue54
  t70 := Tryd.underlying55
  a70 := Tryd.isAgg55
  z70 := Tryd.sizeOf55
  v70 := Tryd.zeroValue55
  t72 := Tryd.underlying57
  a72 := Tryd.isAgg57
  z72 := Tryd.sizeOf57
  v72 := Tryd.zeroValue57
  t164 := Tryd.underlying83
  a164 := Tryd.isAgg83
  z164 := Tryd.sizeOf83
  v164 := Tryd.zeroValue83 }
theorem Tryd.Builder_Extra_165 : Builder.Extra Tryd.prog Tryd.lays165_ren := {
  sizeBuilder := by kernel_rfl
  liesBuilder := by kernel_rfl
  t5 := Tryd.underlying5
  a5 := Tryd.isAgg5
  z5 := Tryd.sizeOf5
  v5 := Tryd.zeroValue5
  infoByte := by kernel_rfl
  cellsByte := by kernel_rfl
  sizeByte := by kernel_rfl
  neB5 := by decide }
open Go.RowKit in
/-- (*strings.Builder).Grow AT A BUILDER THAT HAS NOT BEEN WRITTEN ('var b strings.Builder; b.Grow(n)'): "Grow grows b's capacity, if necessary, to guarantee space for another n bytes.": it holds no byte behind it as before it. (LAID: no walk: one application.) -/
theorem Tryd.Builder_Grow_fresh (B b n : Nat) (w : World) (hB : B ≤ b) (hbk : w.heap[b]? = some (.cells #[.pointer none, .slice none 0 0] 57 (0, 0))) (hBw : B ≤ w.heap.size) (hn : n ≤ 281474976710656) :
    Calls Tryd.prog 39 #[.pointer (some ⟨b, 0, none⟩), .int .i64 n] w fun e w' => e = .returned (.tuple #[]) ∧ (Lib.BuilderAt 57 5 B b (.pointer (some ⟨b, 0, none⟩)) [] w' ∧ Below B w w') := Any.Builder_Grow_fresh Tryd.lays165 Tryd.Builder_Extra_165 B b n w hB hbk hBw hn
def Tryd.lays156_ren : Go.Shelf.Ren := ⟨fun | 156 => 22 | 165 => 39 | 166 => 32 | 169 => 33 | 240 => 45 | 241 => 50 | 276 => 61 | 277 => 67 | n => n, fun | 31 => 36 | 9 => 9 | 3 => 3 | 4 => 4 | 0 => 0 | 20 => 20 | 72 => 57 | 76 => 49 | 70 => 55 | 37 => 54 | 75 => 48 | 127 => 69 | 164 => 83 | 5 => 5 | 80 => 58 | n => n, fun | n => n⟩
theorem Tryd.lays156 : Go.Proofs.Lays.n156 Tryd.prog Tryd.lays156_ren := {
  mixed := by kernel_rfl
  f156 := Tryd.func22.trans (congrArg some (by kernel_rfl))
  f165 := Tryd.func39.trans (congrArg some (by kernel_rfl))
  f166 := Tryd.func32.trans (congrArg some (by kernel_rfl))
  f169 := Tryd.func33.trans (congrArg some (by kernel_rfl))
  f240 := Tryd.func45.trans (congrArg some (by kernel_rfl))
  f241 := Tryd.func50.trans (congrArg some (by kernel_rfl))
  f276 := Tryd.func61.trans (congrArg some (by kernel_rfl))
  f277 := Tryd.func67.trans (congrArg some (by kernel_rfl))
  t0 := Tryd.underlying0
  a0 := Tryd.isAgg0
  z0 := Tryd.sizeOf0
  v0 := Tryd.zeroValue0
  t3 := Tryd.underlying3
  a3 := Tryd.isAgg3
  z3 := Tryd.sizeOf3
  v3 := Tryd.zeroValue3
  t4 := Tryd.underlying4
  a4 := Tryd.isAgg4
  z4 := Tryd.sizeOf4
  v4 := Tryd.zeroValue4
  t9 := Tryd.underlying9
  a9 := Tryd.isAgg9
  z9 := Tryd.sizeOf9
  v9 := Tryd.zeroValue9
  t20 := Tryd.underlying20
  a20 := Tryd.isAgg20
  z20 := Tryd.sizeOf20
  v20 := Tryd.zeroValue20
  t31 := Tryd.underlying36
  a31 := Tryd.isAgg36
  z31 := Tryd.sizeOf36
  v31 := Tryd.zeroValue36
  t37 := Tryd.underlying54
  a37 := Tryd.isAgg54
  z37 := Tryd.sizeOf54
  v37 := Tryd.zeroValue54
  t70 := Tryd.underlying55
  a70 := Tryd.isAgg55
  z70 := Tryd.sizeOf55
  v70 := Tryd.zeroValue55
  t72 := Tryd.underlying57
  a72 := Tryd.isAgg57
  z72 := Tryd.sizeOf57
  v72 := Tryd.zeroValue57
  t75 := Tryd.underlying48
  a75 := Tryd.isAgg48
  z75 := Tryd.sizeOf48
  v75 := Tryd.zeroValue48
  t76 := Tryd.underlying49
  a76 := Tryd.isAgg49
  z76 := Tryd.sizeOf49
  v76 := Tryd.zeroValue49
  t127 := Tryd.underlying69
  a127 := Tryd.isAgg69
  z127 := Tryd.sizeOf69
  v127 := Tryd.zeroValue69
  t164 := Tryd.underlying83
  a164 := Tryd.isAgg83
  z164 := Tryd.sizeOf83
  v164 := Tryd.zeroValue83 }
theorem Tryd.Builder_Extra_156 : Builder.Extra Tryd.prog Tryd.lays156_ren := {
  sizeBuilder := by kernel_rfl
  liesBuilder := by kernel_rfl
  t5 := Tryd.underlying5
  a5 := Tryd.isAgg5
  z5 := Tryd.sizeOf5
  v5 := Tryd.zeroValue5
  infoByte := by kernel_rfl
  cellsByte := by kernel_rfl
  sizeByte := by kernel_rfl
  neB5 := by decide }
open Go.RowKit in
/-- No element: the empty string; the world is as it was. (Whatever the slice's address and capacity: a nil slice too.) (LAID: no walk: one application.) -/
theorem Tryd.strings_Join_none (a : Option Addr) (c : Nat) (sep : ByteArray) (w : World) :
    Calls Tryd.prog 22 #[.slice a 0 c, .string sep] w fun e w' => e = .returned (.string ⟨#[]⟩) ∧ w' = w := Any.strings_Join_none Tryd.lays156 Tryd.Builder_Extra_156 a c sep w
open Go.RowKit in
/-- strings.Join: "Join concatenates the elements of its first argument to create a single string. The separator string sep is placed between elements in the resulting string.": HOWEVER MANY ELEMENTS. Below the heap's end the world is as it was. (LAID: no walk: one application.) -/
theorem Tryd.strings_Join (bk o c : Nat) (xs : List ByteArray) (sep : ByteArray) (w : World) (hcells : ∀ (j : Nat) x, xs[j]? = some x → w.cell? ⟨bk, o + j, none⟩ = some (.string x)) (hbk : bk < w.heap.size) (hN : xs.length ≤ 140737488355328) (hcap : xs.length ≤ c) (hlen : (Lib.join (xs.map (·.data.toList)) sep.data.toList).length ≤ 140737488355328) :
    Calls Tryd.prog 22 #[.slice (some ⟨bk, o, none⟩) xs.length c, .string sep] w fun e w' => e = .returned (.string ⟨(Lib.join (xs.map (·.data.toList)) sep.data.toList).toArray⟩) ∧ Below w.heap.size w w' := Any.strings_Join Tryd.lays156 Tryd.Builder_Extra_156 bk o c xs sep w hcells hbk hN hcap hlen
open Go.RowKit in
/-- (*strings.Builder).String: "String returns the accumulated string.": OF A BUILDER THAT HOLDS AT LEAST ONE BYTE. ✋ THE MODEL FREEZES THOSE BYTES IN THE BUFFER (unsafe.String): a later write INTO them ends the model's run without an answer; a later append BEHIND them goes on. The statement's order of evaluation is drawn: one draw. THE FORM '_f': IT SAYS BESIDES THAT THE BUILDER IS A BUILDER STILL ('Lib.IsBuilderF', the same bytes): SO IT CAN BE WRITTEN ON: 'b.WriteString(b.String()[:k])'. (LAID: no walk: one application.) -/
theorem Tryd.Builder_String_f (B b : Nat) (l : List UInt8) (w : World) (h : Lib.IsBuilderF 57 5 B b (Lib.byteCells l) w) (h0 : l ≠ []) :
    Calls Tryd.prog 33 #[.pointer (some ⟨b, 0, none⟩)] w fun e w' => e = .returned (.string ⟨l.toArray⟩) ∧ (Lib.IsBuilderF 57 5 B b (Lib.byteCells l) w' ∧ Below B w w') := Any.Builder_String_f Tryd.lays169 Tryd.Builder_Extra_169 B b l w h h0
open Go.RowKit in
/-- (*strings.Builder).String OF A BUILDER THAT HOLDS NO BYTE: the empty string; THE FORM '_f': a builder still. (LAID: no walk: one application.) -/
theorem Tryd.Builder_String_empty_f (B b : Nat) (w : World) (h : Lib.IsBuilderF 57 5 B b [] w) (hBw : B ≤ w.heap.size) :
    Calls Tryd.prog 33 #[.pointer (some ⟨b, 0, none⟩)] w fun e w' => e = .returned (.string ⟨#[]⟩) ∧ (Lib.IsBuilderF 57 5 B b [] w' ∧ Below B w w') := Any.Builder_String_empty_f Tryd.lays169 Tryd.Builder_Extra_169 B b w h hBw
open Go.RowKit in
/-- (*strings.Builder).String: "String returns the accumulated string.": WHATEVER THE BUILDER HOLDS; THE FORM '_f': OF A BUILDER THAT MAY HAVE BEEN READ BEFORE; AND IT IS A BUILDER STILL, holding the same bytes: it can be written on. (LAID: no walk: one application.) -/
theorem Tryd.Builder_String_any_f (B b : Nat) (l : List UInt8) (w : World) (h : Lib.IsBuilderF 57 5 B b (Lib.byteCells l) w) (hBw : B ≤ w.heap.size) :
    Calls Tryd.prog 33 #[.pointer (some ⟨b, 0, none⟩)] w fun e w' => e = .returned (.string ⟨l.toArray⟩) ∧ (Lib.IsBuilderF 57 5 B b (Lib.byteCells l) w' ∧ Below B w w') := Any.Builder_String_any_f Tryd.lays169 Tryd.Builder_Extra_169 B b l w h hBw
open Go.RowKit in
/-- (*strings.Builder).String: "String returns the accumulated string.": OF A BUILDER THAT HOLDS AT LEAST ONE BYTE. ✋ THE MODEL FREEZES THOSE BYTES IN THE BUFFER (unsafe.String): a later write INTO them ends the model's run without an answer; a later append BEHIND them goes on. The statement's order of evaluation is drawn: one draw. THE FORM '_k': OVER 'Lib.IsBuilderF' (a builder that 'String()' may have read), AND WITH THE FRAME THAT REACHES ABOVE THE BUILDER: 'Lib.OthersKept': every block that is not b and is no row of uint8's stands as it stood: the iterator of a range among them. (LAID: no walk: one application.) -/
theorem Tryd.Builder_String_k (B b : Nat) (l : List UInt8) (w : World) (h : Lib.IsBuilderF 57 5 B b (Lib.byteCells l) w) (h0 : l ≠ []) :
    Calls Tryd.prog 33 #[.pointer (some ⟨b, 0, none⟩)] w fun e w' => e = .returned (.string ⟨l.toArray⟩) ∧ (Lib.IsBuilderF 57 5 B b (Lib.byteCells l) w' ∧ Below B w w' ∧ Lib.OthersKept 5 (some b) w w') := Any.Builder_String_k Tryd.lays169 Tryd.Builder_Extra_169 B b l w h h0
open Go.RowKit in
/-- (*strings.Builder).String OF A BUILDER THAT HOLDS NO BYTE: the empty string; THE FORM '_k': OVER 'Lib.IsBuilderF' (a builder that 'String()' may have read), AND WITH THE FRAME THAT REACHES ABOVE THE BUILDER: 'Lib.OthersKept': every block that is not b and is no row of uint8's stands as it stood: the iterator of a range among them. (LAID: no walk: one application.) -/
theorem Tryd.Builder_String_empty_k (B b : Nat) (w : World) (h : Lib.IsBuilderF 57 5 B b [] w) (hBw : B ≤ w.heap.size) :
    Calls Tryd.prog 33 #[.pointer (some ⟨b, 0, none⟩)] w fun e w' => e = .returned (.string ⟨#[]⟩) ∧ (Lib.IsBuilderF 57 5 B b [] w' ∧ Below B w w' ∧ Lib.OthersKept 5 (some b) w w') := Any.Builder_String_empty_k Tryd.lays169 Tryd.Builder_Extra_169 B b w h hBw
open Go.RowKit in
/-- (*strings.Builder).String: "String returns the accumulated string.": WHATEVER THE BUILDER HOLDS; THE FORM '_k': OVER 'Lib.IsBuilderF' (a builder that 'String()' may have read), AND WITH THE FRAME THAT REACHES ABOVE THE BUILDER: 'Lib.OthersKept': every block that is not b and is no row of uint8's stands as it stood: the iterator of a range among them. (LAID: no walk: one application.) -/
theorem Tryd.Builder_String_any_k (B b : Nat) (l : List UInt8) (w : World) (h : Lib.IsBuilderF 57 5 B b (Lib.byteCells l) w) (hBw : B ≤ w.heap.size) :
    Calls Tryd.prog 33 #[.pointer (some ⟨b, 0, none⟩)] w fun e w' => e = .returned (.string ⟨l.toArray⟩) ∧ (Lib.IsBuilderF 57 5 B b (Lib.byteCells l) w' ∧ Below B w w' ∧ Lib.OthersKept 5 (some b) w w') := Any.Builder_String_any_k Tryd.lays169 Tryd.Builder_Extra_169 B b l w h hBw
def Tryd.lays244_ren : Go.Shelf.Ren := ⟨fun | 244 => 43 | 247 => 56 | 287 => 75 | 321 => 88 | 322 => 89 | n => n, fun | 9 => 9 | 3 => 3 | 75 => 48 | 4 => 4 | 5 => 5 | 167 => 77 | 37 => 54 | 0 => 0 | 85 => 78 | 2 => 2 | 53 => 92 | 175 => 103 | 46 => 99 | 21 => 21 | 80 => 58 | n => n, fun | n => n⟩
theorem Tryd.lays244 : Go.Proofs.Lays.n244 Tryd.prog Tryd.lays244_ren := {
  mixed := by kernel_rfl
  f244 := Tryd.func43.trans (congrArg some (by kernel_rfl))
  f247 := Tryd.func56.trans (congrArg some (by kernel_rfl))
  f287 := Tryd.func75.trans (congrArg some (by kernel_rfl))
  f321 := Tryd.func88.trans (congrArg some (by kernel_rfl))
  f322 := Tryd.func89.trans (congrArg some (by kernel_rfl))
  t0 := Tryd.underlying0
  a0 := Tryd.isAgg0
  z0 := Tryd.sizeOf0
  v0 := Tryd.zeroValue0
  t2 := Tryd.underlying2
  a2 := Tryd.isAgg2
  z2 := Tryd.sizeOf2
  v2 := Tryd.zeroValue2
  t3 := Tryd.underlying3
  a3 := Tryd.isAgg3
  z3 := Tryd.sizeOf3
  v3 := Tryd.zeroValue3
  t4 := Tryd.underlying4
  a4 := Tryd.isAgg4
  z4 := Tryd.sizeOf4
  v4 := Tryd.zeroValue4
  t5 := Tryd.underlying5
  a5 := Tryd.isAgg5
  z5 := Tryd.sizeOf5
  v5 := Tryd.zeroValue5
  t9 := Tryd.underlying9
  a9 := Tryd.isAgg9
  z9 := Tryd.sizeOf9
  v9 := Tryd.zeroValue9
  t21 := Tryd.underlying21
  a21 := Tryd.isAgg21
  z21 := Tryd.sizeOf21
  v21 := Tryd.zeroValue21
  t37 := Tryd.underlying54
  a37 := Tryd.isAgg54
  z37 := Tryd.sizeOf54
  v37 := Tryd.zeroValue54
  t46 := Tryd.underlying99
  a46 := Tryd.isAgg99
  z46 := Tryd.sizeOf99
  v46 := Tryd.zeroValue99
  t53 := Tryd.underlying92
  a53 := Tryd.isAgg92
  z53 := Tryd.sizeOf92
  v53 := Tryd.zeroValue92
  t75 := Tryd.underlying48
  a75 := Tryd.isAgg48
  z75 := Tryd.sizeOf48
  v75 := Tryd.zeroValue48
  t85 := Tryd.underlying78
  a85 := Tryd.isAgg78
  z85 := Tryd.sizeOf78
  v85 := Tryd.zeroValue78
  t167 := Tryd.underlying77
  a167 := Tryd.isAgg77
  z167 := Tryd.sizeOf77
  v167 := Tryd.zeroValue77
  t175 := Tryd.underlying103
  a175 := Tryd.isAgg103
  z175 := Tryd.sizeOf103
  v175 := Tryd.zeroValue103 }
open Go.RowKit in
/-- internal/strconv.Atoi, at a decimal numeral of at most 18 bytes: ITS VALUE, AND NO ERROR. The world behind the call: the one new row that '[]byte(s)' lays. (LAID: no walk: one application.) -/
theorem Tryd.internal_strconv_Atoi (s : ByteArray) (n : Int) (hl : s.size ≤ 18) (h : Lib.atoi s.data.toList = some n) (w : World) :
    Calls Tryd.prog 43 #[.string s] w fun e w' => e = .returned (.tuple #[.int .i64 n, .nilIface]) ∧ ∃ t, w' = Lib.bytesWorld w 5 t := Any.internal_strconv_Atoi Tryd.lays244 s n hl h w
def Tryd.lays172_ren : Go.Shelf.Ren := ⟨fun | 172 => 28 | 244 => 43 | 245 => 44 | 247 => 56 | 279 => 57 | 280 => 58 | 281 => 59 | 282 => 60 | 287 => 75 | 316 => 76 | 171 => 19 | 205 => 77 | 321 => 88 | 322 => 89 | 243 => 38 | 246 => 49 | 283 => 63 | 284 => 64 | 285 => 65 | 286 => 66 | 129 => 81 | 317 => 80 | 318 => 82 | 319 => 83 | 320 => 84 | 337 => 90 | 338 => 91 | n => n, fun | 9 => 9 | 3 => 3 | 75 => 48 | 76 => 49 | 4 => 4 | 5 => 5 | 167 => 77 | 37 => 54 | 0 => 0 | 85 => 78 | 2 => 2 | 168 => 80 | 53 => 92 | 175 => 103 | 46 => 99 | 210 => 107 | 127 => 69 | 145 => 130 | 143 => 128 | 21 => 21 | 171 => 91 | 173 => 95 | 212 => 121 | 51 => 88 | 20 => 20 | 213 => 122 | 232 => 137 | 233 => 138 | 80 => 58 | n => n, fun | 15 => 3 | 16 => 4 | 17 => 5 | 18 => 8 | 19 => 9 | n => n⟩
theorem Tryd.lays172 : Go.Proofs.Lays.n172 Tryd.prog Tryd.lays172_ren := {
  mixed := by kernel_rfl
  f129 := Tryd.func81.trans (congrArg some (by kernel_rfl))
  f171 := Tryd.func19.trans (congrArg some (by kernel_rfl))
  f172 := Tryd.func28.trans (congrArg some (by kernel_rfl))
  f205 := Tryd.func77.trans (congrArg some (by kernel_rfl))
  f243 := Tryd.func38.trans (congrArg some (by kernel_rfl))
  f244 := Tryd.func43.trans (congrArg some (by kernel_rfl))
  f245 := Tryd.func44.trans (congrArg some (by kernel_rfl))
  f246 := Tryd.func49.trans (congrArg some (by kernel_rfl))
  f247 := Tryd.func56.trans (congrArg some (by kernel_rfl))
  f279 := Tryd.func57.trans (congrArg some (by kernel_rfl))
  f280 := Tryd.func58.trans (congrArg some (by kernel_rfl))
  f281 := Tryd.func59.trans (congrArg some (by kernel_rfl))
  f282 := Tryd.func60.trans (congrArg some (by kernel_rfl))
  f283 := Tryd.func63.trans (congrArg some (by kernel_rfl))
  f284 := Tryd.func64.trans (congrArg some (by kernel_rfl))
  f285 := Tryd.func65.trans (congrArg some (by kernel_rfl))
  f286 := Tryd.func66.trans (congrArg some (by kernel_rfl))
  f287 := Tryd.func75.trans (congrArg some (by kernel_rfl))
  f316 := Tryd.func76.trans (congrArg some (by kernel_rfl))
  f317 := Tryd.func80.trans (congrArg some (by kernel_rfl))
  f318 := Tryd.func82.trans (congrArg some (by kernel_rfl))
  f319 := Tryd.func83.trans (congrArg some (by kernel_rfl))
  f320 := Tryd.func84.trans (congrArg some (by kernel_rfl))
  f321 := Tryd.func88.trans (congrArg some (by kernel_rfl))
  f322 := Tryd.func89.trans (congrArg some (by kernel_rfl))
  f337 := Tryd.func90.trans (congrArg some (by kernel_rfl))
  f338 := Tryd.func91.trans (congrArg some (by kernel_rfl))
  t0 := Tryd.underlying0
  a0 := Tryd.isAgg0
  z0 := Tryd.sizeOf0
  v0 := Tryd.zeroValue0
  t2 := Tryd.underlying2
  a2 := Tryd.isAgg2
  z2 := Tryd.sizeOf2
  v2 := Tryd.zeroValue2
  t3 := Tryd.underlying3
  a3 := Tryd.isAgg3
  z3 := Tryd.sizeOf3
  v3 := Tryd.zeroValue3
  t4 := Tryd.underlying4
  a4 := Tryd.isAgg4
  z4 := Tryd.sizeOf4
  v4 := Tryd.zeroValue4
  t5 := Tryd.underlying5
  a5 := Tryd.isAgg5
  z5 := Tryd.sizeOf5
  v5 := Tryd.zeroValue5
  t9 := Tryd.underlying9
  a9 := Tryd.isAgg9
  z9 := Tryd.sizeOf9
  v9 := Tryd.zeroValue9
  t20 := Tryd.underlying20
  a20 := Tryd.isAgg20
  z20 := Tryd.sizeOf20
  v20 := Tryd.zeroValue20
  t21 := Tryd.underlying21
  a21 := Tryd.isAgg21
  z21 := Tryd.sizeOf21
  v21 := Tryd.zeroValue21
  t37 := Tryd.underlying54
  a37 := Tryd.isAgg54
  z37 := Tryd.sizeOf54
  v37 := Tryd.zeroValue54
  t46 := Tryd.underlying99
  a46 := Tryd.isAgg99
  z46 := Tryd.sizeOf99
  v46 := Tryd.zeroValue99
  t51 := Tryd.underlying88
  a51 := Tryd.isAgg88
  z51 := Tryd.sizeOf88
  v51 := Tryd.zeroValue88
  t53 := Tryd.underlying92
  a53 := Tryd.isAgg92
  z53 := Tryd.sizeOf92
  v53 := Tryd.zeroValue92
  t75 := Tryd.underlying48
  a75 := Tryd.isAgg48
  z75 := Tryd.sizeOf48
  v75 := Tryd.zeroValue48
  t76 := Tryd.underlying49
  a76 := Tryd.isAgg49
  z76 := Tryd.sizeOf49
  v76 := Tryd.zeroValue49
  t85 := Tryd.underlying78
  a85 := Tryd.isAgg78
  z85 := Tryd.sizeOf78
  v85 := Tryd.zeroValue78
  t127 := Tryd.underlying69
  a127 := Tryd.isAgg69
  z127 := Tryd.sizeOf69
  v127 := Tryd.zeroValue69
  t143 := Tryd.underlying128
  a143 := Tryd.isAgg128
  z143 := Tryd.sizeOf128
  v143 := Tryd.zeroValue128
  t145 := Tryd.underlying130
  a145 := Tryd.isAgg130
  z145 := Tryd.sizeOf130
  v145 := Tryd.zeroValue130
  t167 := Tryd.underlying77
  a167 := Tryd.isAgg77
  z167 := Tryd.sizeOf77
  v167 := Tryd.zeroValue77
  t168 := Tryd.underlying80
  a168 := Tryd.isAgg80
  z168 := Tryd.sizeOf80
  v168 := Tryd.zeroValue80
  t171 := Tryd.underlying91
  a171 := Tryd.isAgg91
  z171 := Tryd.sizeOf91
  v171 := Tryd.zeroValue91
  t173 := Tryd.underlying95
  a173 := Tryd.isAgg95
  z173 := Tryd.sizeOf95
  v173 := Tryd.zeroValue95
  t175 := Tryd.underlying103
  a175 := Tryd.isAgg103
  z175 := Tryd.sizeOf103
  v175 := Tryd.zeroValue103
  t210 := Tryd.underlying107
  a210 := Tryd.isAgg107
  z210 := Tryd.sizeOf107
  v210 := Tryd.zeroValue107
  t212 := Tryd.underlying121
  a212 := Tryd.isAgg121
  z212 := Tryd.sizeOf121
  v212 := Tryd.zeroValue121
  t213 := Tryd.underlying122
  a213 := Tryd.isAgg122
  z213 := Tryd.sizeOf122
  t232 := Tryd.underlying137
  a232 := Tryd.isAgg137
  z232 := Tryd.sizeOf137
  v232 := Tryd.zeroValue137
  t233 := Tryd.underlying138
  a233 := Tryd.isAgg138
  z233 := Tryd.sizeOf138
  v233 := Tryd.zeroValue138
  g15 := by kernel_rfl
  g16 := by kernel_rfl
  g17 := by kernel_rfl
  g18 := by kernel_rfl
  g19 := by kernel_rfl }
open Go.RowKit in
/-- strconv.Atoi: "Atoi is equivalent to ParseInt(s, 10, 0), converted to type int.": AT A DECIMAL NUMERAL OF AT MOST 18 BYTES: its value, and a nil error. The world behind the call: the one new row that the library's '[]byte(s)' lays. (LAID: no walk: one application.) -/
theorem Tryd.strconv_Atoi (s : ByteArray) (n : Int) (hl : s.size ≤ 18) (h : Lib.atoi s.data.toList = some n) (w : World) :
    Calls Tryd.prog 28 #[.string s] w fun e w' => e = .returned (.tuple #[.int .i64 n, .nilIface]) ∧ ∃ t, w' = Lib.bytesWorld w 5 t := Any.strconv_Atoi Tryd.lays172 s n hl h w
def Tryd.lays129_ren : Go.Shelf.Ren := ⟨fun | 129 => 81 | n => n, fun | 53 => 92 | 3 => 3 | 4 => 4 | 46 => 99 | 5 => 5 | 9 => 9 | n => n, fun | n => n⟩
theorem Tryd.lays129 : Go.Proofs.Lays.n129 Tryd.prog Tryd.lays129_ren := {
  mixed := by kernel_rfl
  f129 := Tryd.func81.trans (congrArg some (by kernel_rfl))
  t3 := Tryd.underlying3
  a3 := Tryd.isAgg3
  z3 := Tryd.sizeOf3
  v3 := Tryd.zeroValue3
  t4 := Tryd.underlying4
  a4 := Tryd.isAgg4
  z4 := Tryd.sizeOf4
  v4 := Tryd.zeroValue4
  t5 := Tryd.underlying5
  a5 := Tryd.isAgg5
  z5 := Tryd.sizeOf5
  v5 := Tryd.zeroValue5
  t9 := Tryd.underlying9
  a9 := Tryd.isAgg9
  z9 := Tryd.sizeOf9
  v9 := Tryd.zeroValue9
  t46 := Tryd.underlying99
  a46 := Tryd.isAgg99
  z46 := Tryd.sizeOf99
  v46 := Tryd.zeroValue99
  t53 := Tryd.underlying92
  a53 := Tryd.isAgg92
  z53 := Tryd.sizeOf92
  v53 := Tryd.zeroValue92 }
/-- bits.Len64: "Len64 returns the minimum number of bits required to represent x; the result is 0 for x == 0.": IT RETURNS 'Lib.bitLen x'; the world is as it was. ('h0', 'h1': x is a uint64.) (LAID: no walk: one application.) -/
theorem Tryd.bits_Len64 (x : Int) (w : World) (h0 : 0 ≤ x) (h1 : x ≤ 18446744073709551615) :
    Calls Tryd.prog 81 #[.int .u64 x] w fun e w' => e = .returned (.int .i64 (Lib.bitLen x.toNat)) ∧ w' = w := Any.bits_Len64 Tryd.lays129 x w h0 h1
def Tryd.lays317_ren : Go.Shelf.Ren := ⟨fun | 317 => 80 | n => n, fun | 3 => 3 | 46 => 99 | n => n, fun | n => n⟩
theorem Tryd.lays317 : Go.Proofs.Lays.n317 Tryd.prog Tryd.lays317_ren := {
  mixed := by kernel_rfl
  f317 := Tryd.func80.trans (congrArg some (by kernel_rfl))
  t3 := Tryd.underlying3
  a3 := Tryd.isAgg3
  z3 := Tryd.sizeOf3
  v3 := Tryd.zeroValue3
  t46 := Tryd.underlying99
  a46 := Tryd.isAgg99
  z46 := Tryd.sizeOf99
  v46 := Tryd.zeroValue99 }
open Go.Lib in
/-- internal/strconv.log10Pow2: "log10Pow2(x) returns ⌊log₁₀ 2**x⌋ = ⌊x * log₁₀ 2⌋.": '(x * 78913) >> 18', at an x up to 64 (a length in bits). The world is as it was. (LAID: no walk: one application.) -/
theorem Tryd.internal_strconv_log10Pow2 (x : Nat) (h : x ≤ 64) (w : World) :
    Calls Tryd.prog 80 #[.int .i64 x] w fun e w' => e = .returned (.int .i64 (Lib.l10 x)) ∧ w' = w := Any.internal_strconv_log10Pow2 Tryd.lays317 x h w
def Tryd.lays318_ren : Go.Shelf.Ren := ⟨fun | 318 => 82 | n => n, fun | 3 => 3 | 4 => 4 | n => n, fun | n => n⟩
theorem Tryd.lays318 : Go.Proofs.Lays.n318 Tryd.prog Tryd.lays318_ren := {
  mixed := by kernel_rfl
  f318 := Tryd.func82.trans (congrArg some (by kernel_rfl))
  t3 := Tryd.underlying3
  a3 := Tryd.isAgg3
  z3 := Tryd.sizeOf3
  v3 := Tryd.zeroValue3
  t4 := Tryd.underlying4
  a4 := Tryd.isAgg4
  z4 := Tryd.sizeOf4
  v4 := Tryd.zeroValue4 }
open Go.Lib in
/-- internal/strconv.bool2: "bool2 converts b to an integer: 1 for true, 0 for false." The world is as it was. (LAID: no walk: one application.) -/
theorem Tryd.internal_strconv_bool2_int (b : Bool) (w : World) :
    Calls Tryd.prog 82 #[.bool b] w fun e w' => e = .returned (.int .i64 (if b then 1 else 0)) ∧ w' = w := Any.internal_strconv_bool2_int Tryd.lays318 b w
def Tryd.lays283_ren : Go.Shelf.Ren := ⟨fun | 283 => 63 | n => n, fun | 3 => 3 | 9 => 9 | 4 => 4 | n => n, fun | n => n⟩
theorem Tryd.lays283 : Go.Proofs.Lays.n283 Tryd.prog Tryd.lays283_ren := {
  mixed := by kernel_rfl
  f283 := Tryd.func63.trans (congrArg some (by kernel_rfl))
  t3 := Tryd.underlying3
  a3 := Tryd.isAgg3
  z3 := Tryd.sizeOf3
  v3 := Tryd.zeroValue3
  t4 := Tryd.underlying4
  a4 := Tryd.isAgg4
  z4 := Tryd.sizeOf4
  v4 := Tryd.zeroValue4
  t9 := Tryd.underlying9
  a9 := Tryd.isAgg9
  z9 := Tryd.sizeOf9
  v9 := Tryd.zeroValue9 }
open Go.Lib in
/-- internal/strconv.small: "small returns the string for an i with 0 <= i < nSmalls.": i's decimal numeral. The world is as it was. (LAID: no walk: one application.) -/
theorem Tryd.internal_strconv_small (i : Nat) (h : i < 100) (w : World) :
    Calls Tryd.prog 63 #[.int .i64 i] w fun e w' => e = .returned (.string ⟨(Lib.decDigits i).toArray⟩) ∧ w' = w := Any.internal_strconv_small Tryd.lays283 i h w
def Tryd.laysM284_ren : Go.Shelf.Ren := ⟨fun | 284 => 64 | 129 => 81 | 317 => 80 | 318 => 82 | n => n, fun | 53 => 92 | 3 => 3 | 212 => 121 | 0 => 0 | 4 => 4 | 46 => 99 | 5 => 5 | 9 => 9 | n => n, fun | 17 => 5 | n => n⟩
theorem Tryd.laysM284 : Go.Proofs.LaysM.n284 Tryd.prog Tryd.laysM284_ren := {
  mixed := by kernel_rfl
  f129 := Tryd.func81.trans (congrArg some (by kernel_rfl))
  f284 := Tryd.func64.trans (congrArg some (by kernel_rfl))
  f317 := Tryd.func80.trans (congrArg some (by kernel_rfl))
  f318 := Tryd.func82.trans (congrArg some (by kernel_rfl))
  t0 := Tryd.underlying0
  a0 := Tryd.isAgg0
  z0 := Tryd.sizeOf0
  v0 := Tryd.zeroValue0
  t3 := Tryd.underlying3
  a3 := Tryd.isAgg3
  z3 := Tryd.sizeOf3
  v3 := Tryd.zeroValue3
  t4 := Tryd.underlying4
  a4 := Tryd.isAgg4
  z4 := Tryd.sizeOf4
  v4 := Tryd.zeroValue4
  t5 := Tryd.underlying5
  a5 := Tryd.isAgg5
  z5 := Tryd.sizeOf5
  v5 := Tryd.zeroValue5
  t9 := Tryd.underlying9
  a9 := Tryd.isAgg9
  z9 := Tryd.sizeOf9
  v9 := Tryd.zeroValue9
  t46 := Tryd.underlying99
  a46 := Tryd.isAgg99
  z46 := Tryd.sizeOf99
  v46 := Tryd.zeroValue99
  t53 := Tryd.underlying92
  a53 := Tryd.isAgg92
  z53 := Tryd.sizeOf92
  v53 := Tryd.zeroValue92
  t212 := Tryd.underlying121
  a212 := Tryd.isAgg121
  z212 := Tryd.sizeOf121
  v212 := Tryd.zeroValue121
  g17 := by kernel_rfl
  i0 := by kernel_rfl
  i3 := by kernel_rfl
  i4 := by kernel_rfl
  i5 := by kernel_rfl
  i9 := by kernel_rfl
  i46 := by kernel_rfl
  i53 := by kernel_rfl
  i212 := by kernel_rfl
  m17 := by kernel_rfl }
open Go.Lib in
/-- internal/strconv.numDigits, at a d that is not 0: THE NUMBER OF d's DECIMAL DIGITS. The world is as it was. (LAID: no walk: one application.) -/
theorem Tryd.internal_strconv_numDigits (u : Nat) (h1 : 1 ≤ u) (h2 : u < 18446744073709551616) (w : World) (htab : Lib.TabIs Tryd.prog w "internal/strconv.uint64pow10" .u64 Lib.pow10Tab) :
    Calls Tryd.prog 64 #[.int .u64 u] w fun e w' => e = .returned (.int .i64 (Lib.nDigits u)) ∧ w' = w := Any.internal_strconv_numDigits Tryd.laysM284 u h1 h2 w htab
def Tryd.lays285_ren : Go.Shelf.Ren := ⟨fun | 285 => 65 | n => n, fun | 37 => 54 | 53 => 92 | 3 => 3 | 4 => 4 | 51 => 88 | 9 => 9 | 5 => 5 | 0 => 0 | n => n, fun | n => n⟩
theorem Tryd.lays285 : Go.Proofs.Lays.n285 Tryd.prog Tryd.lays285_ren := {
  mixed := by kernel_rfl
  f285 := Tryd.func65.trans (congrArg some (by kernel_rfl))
  t0 := Tryd.underlying0
  a0 := Tryd.isAgg0
  z0 := Tryd.sizeOf0
  v0 := Tryd.zeroValue0
  t3 := Tryd.underlying3
  a3 := Tryd.isAgg3
  z3 := Tryd.sizeOf3
  v3 := Tryd.zeroValue3
  t4 := Tryd.underlying4
  a4 := Tryd.isAgg4
  z4 := Tryd.sizeOf4
  v4 := Tryd.zeroValue4
  t5 := Tryd.underlying5
  a5 := Tryd.isAgg5
  z5 := Tryd.sizeOf5
  v5 := Tryd.zeroValue5
  t9 := Tryd.underlying9
  a9 := Tryd.isAgg9
  z9 := Tryd.sizeOf9
  v9 := Tryd.zeroValue9
  t37 := Tryd.underlying54
  a37 := Tryd.isAgg54
  z37 := Tryd.sizeOf54
  v37 := Tryd.zeroValue54
  t51 := Tryd.underlying88
  a51 := Tryd.isAgg88
  z51 := Tryd.sizeOf88
  v51 := Tryd.zeroValue88
  t53 := Tryd.underlying92
  a53 := Tryd.isAgg92
  z53 := Tryd.sizeOf92
  v53 := Tryd.zeroValue92 }
open Go.RowKit Go.Sort Go.Lib in
/-- internal/strconv.formatBase10: "formatBase10 formats the decimal representation of u into a. The caller is responsible for ensuring that a is big enough to hold u. If a is too big, leading zeros will be filled in as needed.": THE ROW HOLDS u's DIGITS ('FmtInv .. 0 ..': every place t holds 'dg u (len - 1 - t)'); all else is as it was but for the count of draws. (LAID: no walk: one application.) -/
theorem Tryd.internal_strconv_formatBase10 (blk off cap : Nat) (u : Nat) (d : Array UInt8) (w : World) (hH : Holds (fun (b : UInt8) => Value.int .u8 (b.toNat : Int)) w blk off d) (hu : u < 10 ^ d.size) (hu64 : u < 18446744073709551616) (hsz : d.size < 4611686018427387904) :
    Calls Tryd.prog 65 #[.slice (some ⟨blk, off, none⟩) d.size cap, .int .u64 u] w fun e w' =>
      e = .returned (.tuple #[]) ∧ ∃ (n v' : Nat) (dk : Array UInt8), w' = (putRow (fun (b : UInt8) => Value.int .u8 (b.toNat : Int)) w blk off dk).drewN n ∧ FmtInv d.size u 0 v' dk := Any.internal_strconv_formatBase10 Tryd.lays285 blk off cap u d w hH hu hu64 hsz
def Tryd.laysM246_ren : Go.Shelf.Ren := ⟨fun | 246 => 49 | 283 => 63 | 284 => 64 | 285 => 65 | 286 => 66 | 129 => 81 | 317 => 80 | 318 => 82 | 319 => 83 | 320 => 84 | 337 => 90 | 338 => 91 | n => n, fun | 2 => 2 | 3 => 3 | 9 => 9 | 4 => 4 | 171 => 91 | 0 => 0 | 53 => 92 | 37 => 54 | 5 => 5 | 173 => 95 | 212 => 121 | 51 => 88 | 20 => 20 | 213 => 122 | 46 => 99 | 232 => 137 | 233 => 138 | n => n, fun | 17 => 5 | 18 => 8 | 19 => 9 | n => n⟩
theorem Tryd.laysM246 : Go.Proofs.LaysM.n246 Tryd.prog Tryd.laysM246_ren := {
  mixed := by kernel_rfl
  f129 := Tryd.func81.trans (congrArg some (by kernel_rfl))
  f246 := Tryd.func49.trans (congrArg some (by kernel_rfl))
  f283 := Tryd.func63.trans (congrArg some (by kernel_rfl))
  f284 := Tryd.func64.trans (congrArg some (by kernel_rfl))
  f285 := Tryd.func65.trans (congrArg some (by kernel_rfl))
  f286 := Tryd.func66.trans (congrArg some (by kernel_rfl))
  f317 := Tryd.func80.trans (congrArg some (by kernel_rfl))
  f318 := Tryd.func82.trans (congrArg some (by kernel_rfl))
  f319 := Tryd.func83.trans (congrArg some (by kernel_rfl))
  f320 := Tryd.func84.trans (congrArg some (by kernel_rfl))
  f337 := Tryd.func90.trans (congrArg some (by kernel_rfl))
  f338 := Tryd.func91.trans (congrArg some (by kernel_rfl))
  t0 := Tryd.underlying0
  a0 := Tryd.isAgg0
  z0 := Tryd.sizeOf0
  v0 := Tryd.zeroValue0
  t2 := Tryd.underlying2
  a2 := Tryd.isAgg2
  z2 := Tryd.sizeOf2
  v2 := Tryd.zeroValue2
  t3 := Tryd.underlying3
  a3 := Tryd.isAgg3
  z3 := Tryd.sizeOf3
  v3 := Tryd.zeroValue3
  t4 := Tryd.underlying4
  a4 := Tryd.isAgg4
  z4 := Tryd.sizeOf4
  v4 := Tryd.zeroValue4
  t5 := Tryd.underlying5
  a5 := Tryd.isAgg5
  z5 := Tryd.sizeOf5
  v5 := Tryd.zeroValue5
  t9 := Tryd.underlying9
  a9 := Tryd.isAgg9
  z9 := Tryd.sizeOf9
  v9 := Tryd.zeroValue9
  t20 := Tryd.underlying20
  a20 := Tryd.isAgg20
  z20 := Tryd.sizeOf20
  v20 := Tryd.zeroValue20
  t37 := Tryd.underlying54
  a37 := Tryd.isAgg54
  z37 := Tryd.sizeOf54
  v37 := Tryd.zeroValue54
  t46 := Tryd.underlying99
  a46 := Tryd.isAgg99
  z46 := Tryd.sizeOf99
  v46 := Tryd.zeroValue99
  t51 := Tryd.underlying88
  a51 := Tryd.isAgg88
  z51 := Tryd.sizeOf88
  v51 := Tryd.zeroValue88
  t53 := Tryd.underlying92
  a53 := Tryd.isAgg92
  z53 := Tryd.sizeOf92
  v53 := Tryd.zeroValue92
  t171 := Tryd.underlying91
  a171 := Tryd.isAgg91
  z171 := Tryd.sizeOf91
  v171 := Tryd.zeroValue91
  t173 := Tryd.underlying95
  a173 := Tryd.isAgg95
  z173 := Tryd.sizeOf95
  v173 := Tryd.zeroValue95
  t212 := Tryd.underlying121
  a212 := Tryd.isAgg121
  z212 := Tryd.sizeOf121
  v212 := Tryd.zeroValue121
  t213 := Tryd.underlying122
  a213 := Tryd.isAgg122
  z213 := Tryd.sizeOf122
  t232 := Tryd.underlying137
  a232 := Tryd.isAgg137
  z232 := Tryd.sizeOf137
  v232 := Tryd.zeroValue137
  t233 := Tryd.underlying138
  a233 := Tryd.isAgg138
  z233 := Tryd.sizeOf138
  v233 := Tryd.zeroValue138
  g17 := by kernel_rfl
  g18 := by kernel_rfl
  g19 := by kernel_rfl
  i0 := by kernel_rfl
  i2 := by kernel_rfl
  i3 := by kernel_rfl
  i4 := by kernel_rfl
  i5 := by kernel_rfl
  i9 := by kernel_rfl
  i20 := by kernel_rfl
  i37 := by kernel_rfl
  i46 := by kernel_rfl
  i51 := by kernel_rfl
  i53 := by kernel_rfl
  i171 := by kernel_rfl
  i173 := by kernel_rfl
  i212 := by kernel_rfl
  i232 := by kernel_rfl
  i233 := by kernel_rfl
  m17 := by kernel_rfl
  m18 := by kernel_rfl
  m19 := by kernel_rfl }
open Go.RowKit Go.Sort Go.Lib in
/-- internal/strconv.FormatInt: "FormatInt returns the string representation of i in the given base": AT BASE 10: i's decimal numeral, for every int64. The world behind the call: the world before it, new blocks behind the heap, draws. (LAID: no walk: one application.) -/
theorem Tryd.internal_strconv_FormatInt_10 (n : Int) (h0 : -9223372036854775808 ≤ n) (h1 : n ≤ 9223372036854775807) (w : World) (htab : Lib.TabIs Tryd.prog w "internal/strconv.uint64pow10" .u64 Lib.pow10Tab) :
    Calls Tryd.prog 49 #[.int .i64 n, .int .i64 10] w fun e w' => e = .returned (.string ⟨(Lib.itoa n).toArray⟩) ∧ ∃ k os, w' = grow (w.drewN k) os := Any.internal_strconv_FormatInt_10 Tryd.laysM246 n h0 h1 w htab
def Tryd.lays246_ren : Go.Shelf.Ren := ⟨fun | 246 => 49 | 283 => 63 | 284 => 64 | 285 => 65 | 286 => 66 | 129 => 81 | 317 => 80 | 318 => 82 | 319 => 83 | 320 => 84 | 337 => 90 | 338 => 91 | n => n, fun | 2 => 2 | 3 => 3 | 9 => 9 | 4 => 4 | 171 => 91 | 0 => 0 | 53 => 92 | 37 => 54 | 5 => 5 | 173 => 95 | 212 => 121 | 51 => 88 | 20 => 20 | 213 => 122 | 46 => 99 | 232 => 137 | 233 => 138 | n => n, fun | 17 => 5 | 18 => 8 | 19 => 9 | n => n⟩
theorem Tryd.lays246 : Go.Proofs.Lays.n246 Tryd.prog Tryd.lays246_ren := {
  mixed := by kernel_rfl
  f129 := Tryd.func81.trans (congrArg some (by kernel_rfl))
  f246 := Tryd.func49.trans (congrArg some (by kernel_rfl))
  f283 := Tryd.func63.trans (congrArg some (by kernel_rfl))
  f284 := Tryd.func64.trans (congrArg some (by kernel_rfl))
  f285 := Tryd.func65.trans (congrArg some (by kernel_rfl))
  f286 := Tryd.func66.trans (congrArg some (by kernel_rfl))
  f317 := Tryd.func80.trans (congrArg some (by kernel_rfl))
  f318 := Tryd.func82.trans (congrArg some (by kernel_rfl))
  f319 := Tryd.func83.trans (congrArg some (by kernel_rfl))
  f320 := Tryd.func84.trans (congrArg some (by kernel_rfl))
  f337 := Tryd.func90.trans (congrArg some (by kernel_rfl))
  f338 := Tryd.func91.trans (congrArg some (by kernel_rfl))
  t0 := Tryd.underlying0
  a0 := Tryd.isAgg0
  z0 := Tryd.sizeOf0
  v0 := Tryd.zeroValue0
  t2 := Tryd.underlying2
  a2 := Tryd.isAgg2
  z2 := Tryd.sizeOf2
  v2 := Tryd.zeroValue2
  t3 := Tryd.underlying3
  a3 := Tryd.isAgg3
  z3 := Tryd.sizeOf3
  v3 := Tryd.zeroValue3
  t4 := Tryd.underlying4
  a4 := Tryd.isAgg4
  z4 := Tryd.sizeOf4
  v4 := Tryd.zeroValue4
  t5 := Tryd.underlying5
  a5 := Tryd.isAgg5
  z5 := Tryd.sizeOf5
  v5 := Tryd.zeroValue5
  t9 := Tryd.underlying9
  a9 := Tryd.isAgg9
  z9 := Tryd.sizeOf9
  v9 := Tryd.zeroValue9
  t20 := Tryd.underlying20
  a20 := Tryd.isAgg20
  z20 := Tryd.sizeOf20
  v20 := Tryd.zeroValue20
  t37 := Tryd.underlying54
  a37 := Tryd.isAgg54
  z37 := Tryd.sizeOf54
  v37 := Tryd.zeroValue54
  t46 := Tryd.underlying99
  a46 := Tryd.isAgg99
  z46 := Tryd.sizeOf99
  v46 := Tryd.zeroValue99
  t51 := Tryd.underlying88
  a51 := Tryd.isAgg88
  z51 := Tryd.sizeOf88
  v51 := Tryd.zeroValue88
  t53 := Tryd.underlying92
  a53 := Tryd.isAgg92
  z53 := Tryd.sizeOf92
  v53 := Tryd.zeroValue92
  t171 := Tryd.underlying91
  a171 := Tryd.isAgg91
  z171 := Tryd.sizeOf91
  v171 := Tryd.zeroValue91
  t173 := Tryd.underlying95
  a173 := Tryd.isAgg95
  z173 := Tryd.sizeOf95
  v173 := Tryd.zeroValue95
  t212 := Tryd.underlying121
  a212 := Tryd.isAgg121
  z212 := Tryd.sizeOf121
  v212 := Tryd.zeroValue121
  t213 := Tryd.underlying122
  a213 := Tryd.isAgg122
  z213 := Tryd.sizeOf122
  t232 := Tryd.underlying137
  a232 := Tryd.isAgg137
  z232 := Tryd.sizeOf137
  v232 := Tryd.zeroValue137
  t233 := Tryd.underlying138
  a233 := Tryd.isAgg138
  z233 := Tryd.sizeOf138
  v233 := Tryd.zeroValue138
  g17 := by kernel_rfl
  g18 := by kernel_rfl
  g19 := by kernel_rfl }
open Go.RowKit Go.Sort Go.Lib in
/-- THE ROAD WITHOUT THE TABLE: 0 <= i < 100: two constants are read, nothing is laid: no premise on the world, and the world is as it was. (LAID: no walk: one application.) -/
theorem Tryd.internal_strconv_FormatInt_10_small (i : Nat) (hi : i < 100) (w : World) :
    Calls Tryd.prog 49 #[.int .i64 i, .int .i64 10] w fun e w' => e = .returned (.string ⟨(Lib.decDigits i).toArray⟩) ∧ w' = w := Any.internal_strconv_FormatInt_10_small Tryd.lays246 i hi w
def Tryd.laysM243_ren : Go.Shelf.Ren := ⟨fun | 243 => 38 | 246 => 49 | 283 => 63 | 284 => 64 | 285 => 65 | 286 => 66 | 129 => 81 | 317 => 80 | 318 => 82 | 319 => 83 | 320 => 84 | 337 => 90 | 338 => 91 | n => n, fun | 3 => 3 | 9 => 9 | 2 => 2 | 4 => 4 | 171 => 91 | 0 => 0 | 53 => 92 | 37 => 54 | 5 => 5 | 173 => 95 | 212 => 121 | 51 => 88 | 20 => 20 | 213 => 122 | 46 => 99 | 232 => 137 | 233 => 138 | n => n, fun | 17 => 5 | 18 => 8 | 19 => 9 | n => n⟩
theorem Tryd.laysM243 : Go.Proofs.LaysM.n243 Tryd.prog Tryd.laysM243_ren := {
  mixed := by kernel_rfl
  f129 := Tryd.func81.trans (congrArg some (by kernel_rfl))
  f243 := Tryd.func38.trans (congrArg some (by kernel_rfl))
  f246 := Tryd.func49.trans (congrArg some (by kernel_rfl))
  f283 := Tryd.func63.trans (congrArg some (by kernel_rfl))
  f284 := Tryd.func64.trans (congrArg some (by kernel_rfl))
  f285 := Tryd.func65.trans (congrArg some (by kernel_rfl))
  f286 := Tryd.func66.trans (congrArg some (by kernel_rfl))
  f317 := Tryd.func80.trans (congrArg some (by kernel_rfl))
  f318 := Tryd.func82.trans (congrArg some (by kernel_rfl))
  f319 := Tryd.func83.trans (congrArg some (by kernel_rfl))
  f320 := Tryd.func84.trans (congrArg some (by kernel_rfl))
  f337 := Tryd.func90.trans (congrArg some (by kernel_rfl))
  f338 := Tryd.func91.trans (congrArg some (by kernel_rfl))
  t0 := Tryd.underlying0
  a0 := Tryd.isAgg0
  z0 := Tryd.sizeOf0
  v0 := Tryd.zeroValue0
  t2 := Tryd.underlying2
  a2 := Tryd.isAgg2
  z2 := Tryd.sizeOf2
  v2 := Tryd.zeroValue2
  t3 := Tryd.underlying3
  a3 := Tryd.isAgg3
  z3 := Tryd.sizeOf3
  v3 := Tryd.zeroValue3
  t4 := Tryd.underlying4
  a4 := Tryd.isAgg4
  z4 := Tryd.sizeOf4
  v4 := Tryd.zeroValue4
  t5 := Tryd.underlying5
  a5 := Tryd.isAgg5
  z5 := Tryd.sizeOf5
  v5 := Tryd.zeroValue5
  t9 := Tryd.underlying9
  a9 := Tryd.isAgg9
  z9 := Tryd.sizeOf9
  v9 := Tryd.zeroValue9
  t20 := Tryd.underlying20
  a20 := Tryd.isAgg20
  z20 := Tryd.sizeOf20
  v20 := Tryd.zeroValue20
  t37 := Tryd.underlying54
  a37 := Tryd.isAgg54
  z37 := Tryd.sizeOf54
  v37 := Tryd.zeroValue54
  t46 := Tryd.underlying99
  a46 := Tryd.isAgg99
  z46 := Tryd.sizeOf99
  v46 := Tryd.zeroValue99
  t51 := Tryd.underlying88
  a51 := Tryd.isAgg88
  z51 := Tryd.sizeOf88
  v51 := Tryd.zeroValue88
  t53 := Tryd.underlying92
  a53 := Tryd.isAgg92
  z53 := Tryd.sizeOf92
  v53 := Tryd.zeroValue92
  t171 := Tryd.underlying91
  a171 := Tryd.isAgg91
  z171 := Tryd.sizeOf91
  v171 := Tryd.zeroValue91
  t173 := Tryd.underlying95
  a173 := Tryd.isAgg95
  z173 := Tryd.sizeOf95
  v173 := Tryd.zeroValue95
  t212 := Tryd.underlying121
  a212 := Tryd.isAgg121
  z212 := Tryd.sizeOf121
  v212 := Tryd.zeroValue121
  t213 := Tryd.underlying122
  a213 := Tryd.isAgg122
  z213 := Tryd.sizeOf122
  t232 := Tryd.underlying137
  a232 := Tryd.isAgg137
  z232 := Tryd.sizeOf137
  v232 := Tryd.zeroValue137
  t233 := Tryd.underlying138
  a233 := Tryd.isAgg138
  z233 := Tryd.sizeOf138
  v233 := Tryd.zeroValue138
  g17 := by kernel_rfl
  g18 := by kernel_rfl
  g19 := by kernel_rfl
  i0 := by kernel_rfl
  i2 := by kernel_rfl
  i3 := by kernel_rfl
  i4 := by kernel_rfl
  i5 := by kernel_rfl
  i9 := by kernel_rfl
  i20 := by kernel_rfl
  i37 := by kernel_rfl
  i46 := by kernel_rfl
  i51 := by kernel_rfl
  i53 := by kernel_rfl
  i171 := by kernel_rfl
  i173 := by kernel_rfl
  i212 := by kernel_rfl
  i232 := by kernel_rfl
  i233 := by kernel_rfl
  m17 := by kernel_rfl
  m18 := by kernel_rfl
  m19 := by kernel_rfl }
open Go.RowKit Go.Sort Go.Lib in
/-- internal/strconv.Itoa: "Itoa is equivalent to FormatInt(int64(i), 10).": i's decimal numeral, for every int. (LAID: no walk: one application.) -/
theorem Tryd.internal_strconv_Itoa (n : Int) (h0 : -9223372036854775808 ≤ n) (h1 : n ≤ 9223372036854775807) (w : World) (htab : Lib.TabIs Tryd.prog w "internal/strconv.uint64pow10" .u64 Lib.pow10Tab) :
    Calls Tryd.prog 38 #[.int .i64 n] w fun e w' => e = .returned (.string ⟨(Lib.itoa n).toArray⟩) ∧ ∃ k os, w' = grow (w.drewN k) os := Any.internal_strconv_Itoa Tryd.laysM243 n h0 h1 w htab
def Tryd.lays243_ren : Go.Shelf.Ren := ⟨fun | 243 => 38 | 246 => 49 | 283 => 63 | 284 => 64 | 285 => 65 | 286 => 66 | 129 => 81 | 317 => 80 | 318 => 82 | 319 => 83 | 320 => 84 | 337 => 90 | 338 => 91 | n => n, fun | 3 => 3 | 9 => 9 | 2 => 2 | 4 => 4 | 171 => 91 | 0 => 0 | 53 => 92 | 37 => 54 | 5 => 5 | 173 => 95 | 212 => 121 | 51 => 88 | 20 => 20 | 213 => 122 | 46 => 99 | 232 => 137 | 233 => 138 | n => n, fun | 17 => 5 | 18 => 8 | 19 => 9 | n => n⟩
theorem Tryd.lays243 : Go.Proofs.Lays.n243 Tryd.prog Tryd.lays243_ren := {
  mixed := by kernel_rfl
  f129 := Tryd.func81.trans (congrArg some (by kernel_rfl))
  f243 := Tryd.func38.trans (congrArg some (by kernel_rfl))
  f246 := Tryd.func49.trans (congrArg some (by kernel_rfl))
  f283 := Tryd.func63.trans (congrArg some (by kernel_rfl))
  f284 := Tryd.func64.trans (congrArg some (by kernel_rfl))
  f285 := Tryd.func65.trans (congrArg some (by kernel_rfl))
  f286 := Tryd.func66.trans (congrArg some (by kernel_rfl))
  f317 := Tryd.func80.trans (congrArg some (by kernel_rfl))
  f318 := Tryd.func82.trans (congrArg some (by kernel_rfl))
  f319 := Tryd.func83.trans (congrArg some (by kernel_rfl))
  f320 := Tryd.func84.trans (congrArg some (by kernel_rfl))
  f337 := Tryd.func90.trans (congrArg some (by kernel_rfl))
  f338 := Tryd.func91.trans (congrArg some (by kernel_rfl))
  t0 := Tryd.underlying0
  a0 := Tryd.isAgg0
  z0 := Tryd.sizeOf0
  v0 := Tryd.zeroValue0
  t2 := Tryd.underlying2
  a2 := Tryd.isAgg2
  z2 := Tryd.sizeOf2
  v2 := Tryd.zeroValue2
  t3 := Tryd.underlying3
  a3 := Tryd.isAgg3
  z3 := Tryd.sizeOf3
  v3 := Tryd.zeroValue3
  t4 := Tryd.underlying4
  a4 := Tryd.isAgg4
  z4 := Tryd.sizeOf4
  v4 := Tryd.zeroValue4
  t5 := Tryd.underlying5
  a5 := Tryd.isAgg5
  z5 := Tryd.sizeOf5
  v5 := Tryd.zeroValue5
  t9 := Tryd.underlying9
  a9 := Tryd.isAgg9
  z9 := Tryd.sizeOf9
  v9 := Tryd.zeroValue9
  t20 := Tryd.underlying20
  a20 := Tryd.isAgg20
  z20 := Tryd.sizeOf20
  v20 := Tryd.zeroValue20
  t37 := Tryd.underlying54
  a37 := Tryd.isAgg54
  z37 := Tryd.sizeOf54
  v37 := Tryd.zeroValue54
  t46 := Tryd.underlying99
  a46 := Tryd.isAgg99
  z46 := Tryd.sizeOf99
  v46 := Tryd.zeroValue99
  t51 := Tryd.underlying88
  a51 := Tryd.isAgg88
  z51 := Tryd.sizeOf88
  v51 := Tryd.zeroValue88
  t53 := Tryd.underlying92
  a53 := Tryd.isAgg92
  z53 := Tryd.sizeOf92
  v53 := Tryd.zeroValue92
  t171 := Tryd.underlying91
  a171 := Tryd.isAgg91
  z171 := Tryd.sizeOf91
  v171 := Tryd.zeroValue91
  t173 := Tryd.underlying95
  a173 := Tryd.isAgg95
  z173 := Tryd.sizeOf95
  v173 := Tryd.zeroValue95
  t212 := Tryd.underlying121
  a212 := Tryd.isAgg121
  z212 := Tryd.sizeOf121
  v212 := Tryd.zeroValue121
  t213 := Tryd.underlying122
  a213 := Tryd.isAgg122
  z213 := Tryd.sizeOf122
  t232 := Tryd.underlying137
  a232 := Tryd.isAgg137
  z232 := Tryd.sizeOf137
  v232 := Tryd.zeroValue137
  t233 := Tryd.underlying138
  a233 := Tryd.isAgg138
  z233 := Tryd.sizeOf138
  v233 := Tryd.zeroValue138
  g17 := by kernel_rfl
  g18 := by kernel_rfl
  g19 := by kernel_rfl }
open Go.RowKit Go.Sort Go.Lib in
/-- THE ROAD WITHOUT THE TABLE: 0 <= i < 100. (LAID: no walk: one application.) -/
theorem Tryd.internal_strconv_Itoa_small (i : Nat) (hi : i < 100) (w : World) :
    Calls Tryd.prog 38 #[.int .i64 i] w fun e w' => e = .returned (.string ⟨(Lib.decDigits i).toArray⟩) ∧ w' = w := Any.internal_strconv_Itoa_small Tryd.lays243 i hi w
def Tryd.laysM171_ren : Go.Shelf.Ren := ⟨fun | 171 => 19 | 243 => 38 | 246 => 49 | 283 => 63 | 284 => 64 | 285 => 65 | 286 => 66 | 129 => 81 | 317 => 80 | 318 => 82 | 319 => 83 | 320 => 84 | 337 => 90 | 338 => 91 | n => n, fun | 3 => 3 | 9 => 9 | 2 => 2 | 4 => 4 | 171 => 91 | 0 => 0 | 53 => 92 | 37 => 54 | 5 => 5 | 173 => 95 | 212 => 121 | 51 => 88 | 20 => 20 | 213 => 122 | 46 => 99 | 232 => 137 | 233 => 138 | n => n, fun | 17 => 5 | 18 => 8 | 19 => 9 | n => n⟩
theorem Tryd.laysM171 : Go.Proofs.LaysM.n171 Tryd.prog Tryd.laysM171_ren := {
  mixed := by kernel_rfl
  f129 := Tryd.func81.trans (congrArg some (by kernel_rfl))
  f171 := Tryd.func19.trans (congrArg some (by kernel_rfl))
  f243 := Tryd.func38.trans (congrArg some (by kernel_rfl))
  f246 := Tryd.func49.trans (congrArg some (by kernel_rfl))
  f283 := Tryd.func63.trans (congrArg some (by kernel_rfl))
  f284 := Tryd.func64.trans (congrArg some (by kernel_rfl))
  f285 := Tryd.func65.trans (congrArg some (by kernel_rfl))
  f286 := Tryd.func66.trans (congrArg some (by kernel_rfl))
  f317 := Tryd.func80.trans (congrArg some (by kernel_rfl))
  f318 := Tryd.func82.trans (congrArg some (by kernel_rfl))
  f319 := Tryd.func83.trans (congrArg some (by kernel_rfl))
  f320 := Tryd.func84.trans (congrArg some (by kernel_rfl))
  f337 := Tryd.func90.trans (congrArg some (by kernel_rfl))
  f338 := Tryd.func91.trans (congrArg some (by kernel_rfl))
  t0 := Tryd.underlying0
  a0 := Tryd.isAgg0
  z0 := Tryd.sizeOf0
  v0 := Tryd.zeroValue0
  t2 := Tryd.underlying2
  a2 := Tryd.isAgg2
  z2 := Tryd.sizeOf2
  v2 := Tryd.zeroValue2
  t3 := Tryd.underlying3
  a3 := Tryd.isAgg3
  z3 := Tryd.sizeOf3
  v3 := Tryd.zeroValue3
  t4 := Tryd.underlying4
  a4 := Tryd.isAgg4
  z4 := Tryd.sizeOf4
  v4 := Tryd.zeroValue4
  t5 := Tryd.underlying5
  a5 := Tryd.isAgg5
  z5 := Tryd.sizeOf5
  v5 := Tryd.zeroValue5
  t9 := Tryd.underlying9
  a9 := Tryd.isAgg9
  z9 := Tryd.sizeOf9
  v9 := Tryd.zeroValue9
  t20 := Tryd.underlying20
  a20 := Tryd.isAgg20
  z20 := Tryd.sizeOf20
  v20 := Tryd.zeroValue20
  t37 := Tryd.underlying54
  a37 := Tryd.isAgg54
  z37 := Tryd.sizeOf54
  v37 := Tryd.zeroValue54
  t46 := Tryd.underlying99
  a46 := Tryd.isAgg99
  z46 := Tryd.sizeOf99
  v46 := Tryd.zeroValue99
  t51 := Tryd.underlying88
  a51 := Tryd.isAgg88
  z51 := Tryd.sizeOf88
  v51 := Tryd.zeroValue88
  t53 := Tryd.underlying92
  a53 := Tryd.isAgg92
  z53 := Tryd.sizeOf92
  v53 := Tryd.zeroValue92
  t171 := Tryd.underlying91
  a171 := Tryd.isAgg91
  z171 := Tryd.sizeOf91
  v171 := Tryd.zeroValue91
  t173 := Tryd.underlying95
  a173 := Tryd.isAgg95
  z173 := Tryd.sizeOf95
  v173 := Tryd.zeroValue95
  t212 := Tryd.underlying121
  a212 := Tryd.isAgg121
  z212 := Tryd.sizeOf121
  v212 := Tryd.zeroValue121
  t213 := Tryd.underlying122
  a213 := Tryd.isAgg122
  z213 := Tryd.sizeOf122
  t232 := Tryd.underlying137
  a232 := Tryd.isAgg137
  z232 := Tryd.sizeOf137
  v232 := Tryd.zeroValue137
  t233 := Tryd.underlying138
  a233 := Tryd.isAgg138
  z233 := Tryd.sizeOf138
  v233 := Tryd.zeroValue138
  g17 := by kernel_rfl
  g18 := by kernel_rfl
  g19 := by kernel_rfl
  i0 := by kernel_rfl
  i2 := by kernel_rfl
  i3 := by kernel_rfl
  i4 := by kernel_rfl
  i5 := by kernel_rfl
  i9 := by kernel_rfl
  i20 := by kernel_rfl
  i37 := by kernel_rfl
  i46 := by kernel_rfl
  i51 := by kernel_rfl
  i53 := by kernel_rfl
  i171 := by kernel_rfl
  i173 := by kernel_rfl
  i212 := by kernel_rfl
  i232 := by kernel_rfl
  i233 := by kernel_rfl
  m17 := by kernel_rfl
  m18 := by kernel_rfl
  m19 := by kernel_rfl }
open Go.RowKit Go.Sort Go.Lib in
/-- strconv.Itoa: "Itoa is equivalent to FormatInt(int64(i), 10).": i's DECIMAL NUMERAL ('Lib.itoa': a '-' where i is negative, then the digits), FOR EVERY int. The world behind the call: the world before it, new blocks behind the heap (the library's 'var a [24]byte'), draws. (LAID: no walk: one application.) -/
theorem Tryd.strconv_Itoa (n : Int) (h0 : -9223372036854775808 ≤ n) (h1 : n ≤ 9223372036854775807) (w : World) (htab : Lib.TabIs Tryd.prog w "internal/strconv.uint64pow10" .u64 Lib.pow10Tab) :
    Calls Tryd.prog 19 #[.int .i64 n] w fun e w' => e = .returned (.string ⟨(Lib.itoa n).toArray⟩) ∧ ∃ k os, w' = grow (w.drewN k) os := Any.strconv_Itoa Tryd.laysM171 n h0 h1 w htab
def Tryd.lays171_ren : Go.Shelf.Ren := ⟨fun | 171 => 19 | 243 => 38 | 246 => 49 | 283 => 63 | 284 => 64 | 285 => 65 | 286 => 66 | 129 => 81 | 317 => 80 | 318 => 82 | 319 => 83 | 320 => 84 | 337 => 90 | 338 => 91 | n => n, fun | 3 => 3 | 9 => 9 | 2 => 2 | 4 => 4 | 171 => 91 | 0 => 0 | 53 => 92 | 37 => 54 | 5 => 5 | 173 => 95 | 212 => 121 | 51 => 88 | 20 => 20 | 213 => 122 | 46 => 99 | 232 => 137 | 233 => 138 | n => n, fun | 17 => 5 | 18 => 8 | 19 => 9 | n => n⟩
theorem Tryd.lays171 : Go.Proofs.Lays.n171 Tryd.prog Tryd.lays171_ren := {
  mixed := by kernel_rfl
  f129 := Tryd.func81.trans (congrArg some (by kernel_rfl))
  f171 := Tryd.func19.trans (congrArg some (by kernel_rfl))
  f243 := Tryd.func38.trans (congrArg some (by kernel_rfl))
  f246 := Tryd.func49.trans (congrArg some (by kernel_rfl))
  f283 := Tryd.func63.trans (congrArg some (by kernel_rfl))
  f284 := Tryd.func64.trans (congrArg some (by kernel_rfl))
  f285 := Tryd.func65.trans (congrArg some (by kernel_rfl))
  f286 := Tryd.func66.trans (congrArg some (by kernel_rfl))
  f317 := Tryd.func80.trans (congrArg some (by kernel_rfl))
  f318 := Tryd.func82.trans (congrArg some (by kernel_rfl))
  f319 := Tryd.func83.trans (congrArg some (by kernel_rfl))
  f320 := Tryd.func84.trans (congrArg some (by kernel_rfl))
  f337 := Tryd.func90.trans (congrArg some (by kernel_rfl))
  f338 := Tryd.func91.trans (congrArg some (by kernel_rfl))
  t0 := Tryd.underlying0
  a0 := Tryd.isAgg0
  z0 := Tryd.sizeOf0
  v0 := Tryd.zeroValue0
  t2 := Tryd.underlying2
  a2 := Tryd.isAgg2
  z2 := Tryd.sizeOf2
  v2 := Tryd.zeroValue2
  t3 := Tryd.underlying3
  a3 := Tryd.isAgg3
  z3 := Tryd.sizeOf3
  v3 := Tryd.zeroValue3
  t4 := Tryd.underlying4
  a4 := Tryd.isAgg4
  z4 := Tryd.sizeOf4
  v4 := Tryd.zeroValue4
  t5 := Tryd.underlying5
  a5 := Tryd.isAgg5
  z5 := Tryd.sizeOf5
  v5 := Tryd.zeroValue5
  t9 := Tryd.underlying9
  a9 := Tryd.isAgg9
  z9 := Tryd.sizeOf9
  v9 := Tryd.zeroValue9
  t20 := Tryd.underlying20
  a20 := Tryd.isAgg20
  z20 := Tryd.sizeOf20
  v20 := Tryd.zeroValue20
  t37 := Tryd.underlying54
  a37 := Tryd.isAgg54
  z37 := Tryd.sizeOf54
  v37 := Tryd.zeroValue54
  t46 := Tryd.underlying99
  a46 := Tryd.isAgg99
  z46 := Tryd.sizeOf99
  v46 := Tryd.zeroValue99
  t51 := Tryd.underlying88
  a51 := Tryd.isAgg88
  z51 := Tryd.sizeOf88
  v51 := Tryd.zeroValue88
  t53 := Tryd.underlying92
  a53 := Tryd.isAgg92
  z53 := Tryd.sizeOf92
  v53 := Tryd.zeroValue92
  t171 := Tryd.underlying91
  a171 := Tryd.isAgg91
  z171 := Tryd.sizeOf91
  v171 := Tryd.zeroValue91
  t173 := Tryd.underlying95
  a173 := Tryd.isAgg95
  z173 := Tryd.sizeOf95
  v173 := Tryd.zeroValue95
  t212 := Tryd.underlying121
  a212 := Tryd.isAgg121
  z212 := Tryd.sizeOf121
  v212 := Tryd.zeroValue121
  t213 := Tryd.underlying122
  a213 := Tryd.isAgg122
  z213 := Tryd.sizeOf122
  t232 := Tryd.underlying137
  a232 := Tryd.isAgg137
  z232 := Tryd.sizeOf137
  v232 := Tryd.zeroValue137
  t233 := Tryd.underlying138
  a233 := Tryd.isAgg138
  z233 := Tryd.sizeOf138
  v233 := Tryd.zeroValue138
  g17 := by kernel_rfl
  g18 := by kernel_rfl
  g19 := by kernel_rfl }
open Go.RowKit Go.Sort Go.Lib in
/-- THE ROAD WITHOUT THE TABLE: 0 <= i < 100: NO PREMISE ON THE WORLD, AND THE WORLD IS AS IT WAS: a row that keeps its argument in that range need list no table ('laid = []'). (LAID: no walk: one application.) -/
theorem Tryd.strconv_Itoa_small (i : Nat) (hi : i < 100) (w : World) :
    Calls Tryd.prog 19 #[.int .i64 i] w fun e w' => e = .returned (.string ⟨(Lib.decDigits i).toArray⟩) ∧ w' = w := Any.strconv_Itoa_small Tryd.lays171 i hi w
open Go.RowKit in
/-- internal/strconv.Atoi, at a string of 1 to 18 bytes THAT IS NO DECIMAL NUMERAL: 0, AND ErrSyntax (the package's own error number 2). The world behind the call: as it was, or with the one new row that '[]byte(s)' lays. (LAID: no walk: one application.) -/
theorem Tryd.internal_strconv_Atoi_err (s : ByteArray) (hl0 : 1 ≤ s.size) (hl : s.size ≤ 18) (h : Lib.atoi s.data.toList = none) (w : World) :
    Calls Tryd.prog 43 #[.string s] w fun e w' => e = .returned (.tuple #[.int .i64 0, (.iface 77 (.int .i64 2))]) ∧ (w' = w ∨ ∃ t, w' = Lib.bytesWorld w 5 t) := Any.internal_strconv_Atoi_err Tryd.lays244 s hl0 hl h w
def Tryd.lays247_ren : Go.Shelf.Ren := ⟨fun | 247 => 56 | 287 => 75 | 321 => 88 | 322 => 89 | n => n, fun | 9 => 9 | 3 => 3 | 2 => 2 | 75 => 48 | 4 => 4 | 167 => 77 | 5 => 5 | 53 => 92 | 175 => 103 | 46 => 99 | 37 => 54 | 0 => 0 | 21 => 21 | 80 => 58 | n => n, fun | n => n⟩
theorem Tryd.lays247 : Go.Proofs.Lays.n247 Tryd.prog Tryd.lays247_ren := {
  mixed := by kernel_rfl
  f247 := Tryd.func56.trans (congrArg some (by kernel_rfl))
  f287 := Tryd.func75.trans (congrArg some (by kernel_rfl))
  f321 := Tryd.func88.trans (congrArg some (by kernel_rfl))
  f322 := Tryd.func89.trans (congrArg some (by kernel_rfl))
  t0 := Tryd.underlying0
  a0 := Tryd.isAgg0
  z0 := Tryd.sizeOf0
  v0 := Tryd.zeroValue0
  t2 := Tryd.underlying2
  a2 := Tryd.isAgg2
  z2 := Tryd.sizeOf2
  v2 := Tryd.zeroValue2
  t3 := Tryd.underlying3
  a3 := Tryd.isAgg3
  z3 := Tryd.sizeOf3
  v3 := Tryd.zeroValue3
  t4 := Tryd.underlying4
  a4 := Tryd.isAgg4
  z4 := Tryd.sizeOf4
  v4 := Tryd.zeroValue4
  t5 := Tryd.underlying5
  a5 := Tryd.isAgg5
  z5 := Tryd.sizeOf5
  v5 := Tryd.zeroValue5
  t9 := Tryd.underlying9
  a9 := Tryd.isAgg9
  z9 := Tryd.sizeOf9
  v9 := Tryd.zeroValue9
  t21 := Tryd.underlying21
  a21 := Tryd.isAgg21
  z21 := Tryd.sizeOf21
  v21 := Tryd.zeroValue21
  t37 := Tryd.underlying54
  a37 := Tryd.isAgg54
  z37 := Tryd.sizeOf54
  v37 := Tryd.zeroValue54
  t46 := Tryd.underlying99
  a46 := Tryd.isAgg99
  z46 := Tryd.sizeOf99
  v46 := Tryd.zeroValue99
  t53 := Tryd.underlying92
  a53 := Tryd.isAgg92
  z53 := Tryd.sizeOf92
  v53 := Tryd.zeroValue92
  t75 := Tryd.underlying48
  a75 := Tryd.isAgg48
  z75 := Tryd.sizeOf48
  v75 := Tryd.zeroValue48
  t167 := Tryd.underlying77
  a167 := Tryd.isAgg77
  z167 := Tryd.sizeOf77
  v167 := Tryd.zeroValue77
  t175 := Tryd.underlying103
  a175 := Tryd.isAgg103
  z175 := Tryd.sizeOf103
  v175 := Tryd.zeroValue103 }
open Go.RowKit in
/-- internal/strconv.ParseInt at "": 'if s == "" { return 0, ErrSyntax }'. The world is as it was. (LAID: no walk: one application.) -/
theorem Tryd.internal_strconv_ParseInt_empty (base bits : Int) (w : World) :
    Calls Tryd.prog 56 #[.string ⟨#[]⟩, .int .i64 base, .int .i64 bits] w fun e w' => e = .returned (.tuple #[.int .i64 0, (.iface 77 (.int .i64 2))]) ∧ w' = w := Any.internal_strconv_ParseInt_empty Tryd.lays247 base bits w
open Go.RowKit in
/-- internal/strconv.Atoi at "". (LAID: no walk: one application.) -/
theorem Tryd.internal_strconv_Atoi_empty (w : World) :
    Calls Tryd.prog 43 #[.string ⟨#[]⟩] w fun e w' => e = .returned (.tuple #[.int .i64 0, (.iface 77 (.int .i64 2))]) ∧ w' = w := Any.internal_strconv_Atoi_empty Tryd.lays244 w
open Go.RowKit in
/-- internal/strconv.Atoi, AT EVERY STRING OF AT MOST 18 BYTES THAT IS NO DECIMAL NUMERAL: 0, and ErrSyntax. (LAID: no walk: one application.) -/
theorem Tryd.internal_strconv_Atoi_fail (s : ByteArray) (hl : s.size ≤ 18) (h : Lib.atoi s.data.toList = none) (w : World) :
    Calls Tryd.prog 43 #[.string s] w fun e w' => e = .returned (.tuple #[.int .i64 0, (.iface 77 (.int .i64 2))]) ∧ (w' = w ∨ ∃ t, w' = Lib.bytesWorld w 5 t) := Any.internal_strconv_Atoi_fail Tryd.lays244 s hl h w
def Tryd.laysM316_ren : Go.Shelf.Ren := ⟨fun | 316 => 76 | n => n, fun | 9 => 9 | 3 => 3 | 4 => 4 | 37 => 54 | 0 => 0 | 127 => 69 | 5 => 5 | n => n, fun | n => n⟩
theorem Tryd.laysM316 : Go.Proofs.LaysM.n316 Tryd.prog Tryd.laysM316_ren := {
  mixed := by kernel_rfl
  f316 := Tryd.func76.trans (congrArg some (by kernel_rfl))
  t0 := Tryd.underlying0
  a0 := Tryd.isAgg0
  z0 := Tryd.sizeOf0
  v0 := Tryd.zeroValue0
  t3 := Tryd.underlying3
  a3 := Tryd.isAgg3
  z3 := Tryd.sizeOf3
  v3 := Tryd.zeroValue3
  t4 := Tryd.underlying4
  a4 := Tryd.isAgg4
  z4 := Tryd.sizeOf4
  v4 := Tryd.zeroValue4
  t9 := Tryd.underlying9
  a9 := Tryd.isAgg9
  z9 := Tryd.sizeOf9
  v9 := Tryd.zeroValue9
  t37 := Tryd.underlying54
  a37 := Tryd.isAgg54
  z37 := Tryd.sizeOf54
  v37 := Tryd.zeroValue54
  t127 := Tryd.underlying69
  a127 := Tryd.isAgg69
  z127 := Tryd.sizeOf69
  v127 := Tryd.zeroValue69
  t5 := Tryd.underlying5
  a5 := Tryd.isAgg5
  z5 := Tryd.sizeOf5
  v5 := Tryd.zeroValue5
  i0 := by kernel_rfl
  i3 := by kernel_rfl
  i4 := by kernel_rfl
  i5 := by kernel_rfl
  i9 := by kernel_rfl
  i37 := by kernel_rfl
  i127 := by kernel_rfl }
open Go.RowKit in
/-- internal/stringslite.Clone (what strings.Clone calls): "Clone returns a fresh copy of s.": THE SAME BYTES. Of what was there nothing has turned (a new row is laid, and frozen, where s is not empty). (LAID: no walk: one application.) -/
theorem Tryd.stringslite_Clone (s : ByteArray) (w : World) (hlim : s.size ≤ 281474976710656) :
    Calls Tryd.prog 76 #[.string s] w fun e w' => e = .returned (.string s) ∧ Below w.heap.size w w' := Any.stringslite_Clone Tryd.laysM316 s w hlim
def Tryd.laysM279_ren : Go.Shelf.Ren := ⟨fun | 279 => 57 | 316 => 76 | n => n, fun | 9 => 9 | 168 => 80 | 75 => 48 | 210 => 107 | 3 => 3 | 4 => 4 | 37 => 54 | 0 => 0 | 127 => 69 | 80 => 58 | 5 => 5 | n => n, fun | 15 => 3 | n => n⟩
theorem Tryd.laysM279 : Go.Proofs.LaysM.n279 Tryd.prog Tryd.laysM279_ren := {
  mixed := by kernel_rfl
  f279 := Tryd.func57.trans (congrArg some (by kernel_rfl))
  f316 := Tryd.func76.trans (congrArg some (by kernel_rfl))
  t0 := Tryd.underlying0
  a0 := Tryd.isAgg0
  z0 := Tryd.sizeOf0
  v0 := Tryd.zeroValue0
  t3 := Tryd.underlying3
  a3 := Tryd.isAgg3
  z3 := Tryd.sizeOf3
  v3 := Tryd.zeroValue3
  t4 := Tryd.underlying4
  a4 := Tryd.isAgg4
  z4 := Tryd.sizeOf4
  v4 := Tryd.zeroValue4
  t9 := Tryd.underlying9
  a9 := Tryd.isAgg9
  z9 := Tryd.sizeOf9
  v9 := Tryd.zeroValue9
  t37 := Tryd.underlying54
  a37 := Tryd.isAgg54
  z37 := Tryd.sizeOf54
  v37 := Tryd.zeroValue54
  t75 := Tryd.underlying48
  a75 := Tryd.isAgg48
  z75 := Tryd.sizeOf48
  v75 := Tryd.zeroValue48
  t127 := Tryd.underlying69
  a127 := Tryd.isAgg69
  z127 := Tryd.sizeOf69
  v127 := Tryd.zeroValue69
  t168 := Tryd.underlying80
  a168 := Tryd.isAgg80
  z168 := Tryd.sizeOf80
  v168 := Tryd.zeroValue80
  t210 := Tryd.underlying107
  a210 := Tryd.isAgg107
  z210 := Tryd.sizeOf107
  v210 := Tryd.zeroValue107
  g15 := by kernel_rfl
  t5 := Tryd.underlying5
  a5 := Tryd.isAgg5
  z5 := Tryd.sizeOf5
  v5 := Tryd.zeroValue5
  t80 := Tryd.underlying58
  a80 := Tryd.isAgg58
  z80 := Tryd.sizeOf58
  v80 := Tryd.zeroValue58
  i0 := by kernel_rfl
  i3 := by kernel_rfl
  i4 := by kernel_rfl
  i5 := by kernel_rfl
  i9 := by kernel_rfl
  i37 := by kernel_rfl
  i75 := by kernel_rfl
  i80 := by kernel_rfl
  i127 := by kernel_rfl
  i168 := by kernel_rfl
  i210 := by kernel_rfl
  m15 := by kernel_rfl }
open Go.RowKit in
/-- strconv.syntaxError: '&NumError{fn, stringslite.Clone(str), ErrSyntax}': A POINTER TO A NEW BLOCK that holds fn, str's bytes, and what the variable ErrSyntax holds. Of what was there nothing has turned. (LAID: no walk: one application.) -/
theorem Tryd.strconv_syntaxError (fn s : ByteArray) (ev : Value) (w : World) (hlim : s.size ≤ 281474976710656) (hv : w.cell? ⟨3, 0, none⟩ = some ev) (hev : ev = .nilIface ∨ ∃ te pe, ev = .iface te pe) :
    Calls Tryd.prog 57 #[.string fn, .string s] w fun e w' => ∃ N, e = .returned (.pointer (some ⟨N, 0, none⟩)) ∧ w.heap.size ≤ N ∧ w'.heap[N]? = some (.cells #[.string fn, .string s, ev] 107 (0, 0)) ∧ Below w.heap.size w w' := Any.strconv_syntaxError Tryd.laysM279 fn s ev w hlim hv hev
def Tryd.laysC245_ren : Go.Shelf.Ren := ⟨fun | 245 => 44 | 279 => 57 | 280 => 58 | 281 => 59 | 282 => 60 | 316 => 76 | 171 => 19 | 205 => 77 | 243 => 38 | 246 => 49 | 283 => 63 | 284 => 64 | 285 => 65 | 286 => 66 | 129 => 81 | 317 => 80 | 318 => 82 | 319 => 83 | 320 => 84 | 337 => 90 | 338 => 91 | n => n, fun | 9 => 9 | 3 => 3 | 75 => 48 | 167 => 77 | 4 => 4 | 168 => 80 | 210 => 107 | 37 => 54 | 0 => 0 | 127 => 69 | 145 => 130 | 143 => 128 | 2 => 2 | 171 => 91 | 53 => 92 | 5 => 5 | 173 => 95 | 212 => 121 | 51 => 88 | 20 => 20 | 213 => 122 | 46 => 99 | 232 => 137 | 233 => 138 | 80 => 58 | n => n, fun | 15 => 3 | 16 => 4 | 17 => 5 | 18 => 8 | 19 => 9 | n => n⟩
theorem Tryd.laysC245 : Go.Proofs.LaysC.n245 Tryd.prog Tryd.laysC245_ren := {
  mixed := by kernel_rfl
  f129 := Tryd.func81.trans (congrArg some (by kernel_rfl))
  f171 := Tryd.func19.trans (congrArg some (by kernel_rfl))
  f205 := Tryd.func77.trans (congrArg some (by kernel_rfl))
  f243 := Tryd.func38.trans (congrArg some (by kernel_rfl))
  f245 := Tryd.func44.trans (congrArg some (by kernel_rfl))
  f246 := Tryd.func49.trans (congrArg some (by kernel_rfl))
  f279 := Tryd.func57.trans (congrArg some (by kernel_rfl))
  f280 := Tryd.func58.trans (congrArg some (by kernel_rfl))
  f281 := Tryd.func59.trans (congrArg some (by kernel_rfl))
  f282 := Tryd.func60.trans (congrArg some (by kernel_rfl))
  f283 := Tryd.func63.trans (congrArg some (by kernel_rfl))
  f284 := Tryd.func64.trans (congrArg some (by kernel_rfl))
  f285 := Tryd.func65.trans (congrArg some (by kernel_rfl))
  f286 := Tryd.func66.trans (congrArg some (by kernel_rfl))
  f316 := Tryd.func76.trans (congrArg some (by kernel_rfl))
  f317 := Tryd.func80.trans (congrArg some (by kernel_rfl))
  f318 := Tryd.func82.trans (congrArg some (by kernel_rfl))
  f319 := Tryd.func83.trans (congrArg some (by kernel_rfl))
  f320 := Tryd.func84.trans (congrArg some (by kernel_rfl))
  f337 := Tryd.func90.trans (congrArg some (by kernel_rfl))
  f338 := Tryd.func91.trans (congrArg some (by kernel_rfl))
  t0 := Tryd.underlying0
  a0 := Tryd.isAgg0
  z0 := Tryd.sizeOf0
  v0 := Tryd.zeroValue0
  t2 := Tryd.underlying2
  a2 := Tryd.isAgg2
  z2 := Tryd.sizeOf2
  v2 := Tryd.zeroValue2
  t3 := Tryd.underlying3
  a3 := Tryd.isAgg3
  z3 := Tryd.sizeOf3
  v3 := Tryd.zeroValue3
  t4 := Tryd.underlying4
  a4 := Tryd.isAgg4
  z4 := Tryd.sizeOf4
  v4 := Tryd.zeroValue4
  t5 := Tryd.underlying5
  a5 := Tryd.isAgg5
  z5 := Tryd.sizeOf5
  v5 := Tryd.zeroValue5
  t9 := Tryd.underlying9
  a9 := Tryd.isAgg9
  z9 := Tryd.sizeOf9
  v9 := Tryd.zeroValue9
  t20 := Tryd.underlying20
  a20 := Tryd.isAgg20
  z20 := Tryd.sizeOf20
  v20 := Tryd.zeroValue20
  t37 := Tryd.underlying54
  a37 := Tryd.isAgg54
  z37 := Tryd.sizeOf54
  v37 := Tryd.zeroValue54
  t46 := Tryd.underlying99
  a46 := Tryd.isAgg99
  z46 := Tryd.sizeOf99
  v46 := Tryd.zeroValue99
  t51 := Tryd.underlying88
  a51 := Tryd.isAgg88
  z51 := Tryd.sizeOf88
  v51 := Tryd.zeroValue88
  t53 := Tryd.underlying92
  a53 := Tryd.isAgg92
  z53 := Tryd.sizeOf92
  v53 := Tryd.zeroValue92
  t75 := Tryd.underlying48
  a75 := Tryd.isAgg48
  z75 := Tryd.sizeOf48
  v75 := Tryd.zeroValue48
  t127 := Tryd.underlying69
  a127 := Tryd.isAgg69
  z127 := Tryd.sizeOf69
  v127 := Tryd.zeroValue69
  t143 := Tryd.underlying128
  a143 := Tryd.isAgg128
  z143 := Tryd.sizeOf128
  v143 := Tryd.zeroValue128
  t145 := Tryd.underlying130
  a145 := Tryd.isAgg130
  z145 := Tryd.sizeOf130
  v145 := Tryd.zeroValue130
  t167 := Tryd.underlying77
  a167 := Tryd.isAgg77
  z167 := Tryd.sizeOf77
  v167 := Tryd.zeroValue77
  t168 := Tryd.underlying80
  a168 := Tryd.isAgg80
  z168 := Tryd.sizeOf80
  v168 := Tryd.zeroValue80
  t171 := Tryd.underlying91
  a171 := Tryd.isAgg91
  z171 := Tryd.sizeOf91
  v171 := Tryd.zeroValue91
  t173 := Tryd.underlying95
  a173 := Tryd.isAgg95
  z173 := Tryd.sizeOf95
  v173 := Tryd.zeroValue95
  t210 := Tryd.underlying107
  a210 := Tryd.isAgg107
  z210 := Tryd.sizeOf107
  v210 := Tryd.zeroValue107
  t212 := Tryd.underlying121
  a212 := Tryd.isAgg121
  z212 := Tryd.sizeOf121
  v212 := Tryd.zeroValue121
  t213 := Tryd.underlying122
  a213 := Tryd.isAgg122
  z213 := Tryd.sizeOf122
  t232 := Tryd.underlying137
  a232 := Tryd.isAgg137
  z232 := Tryd.sizeOf137
  v232 := Tryd.zeroValue137
  t233 := Tryd.underlying138
  a233 := Tryd.isAgg138
  z233 := Tryd.sizeOf138
  v233 := Tryd.zeroValue138
  g15 := by kernel_rfl
  g16 := by kernel_rfl
  g17 := by kernel_rfl
  g18 := by kernel_rfl
  g19 := by kernel_rfl
  t80 := Tryd.underlying58
  a80 := Tryd.isAgg58
  z80 := Tryd.sizeOf58
  v80 := Tryd.zeroValue58
  i0 := by kernel_rfl
  i2 := by kernel_rfl
  i3 := by kernel_rfl
  i4 := by kernel_rfl
  i5 := by kernel_rfl
  i9 := by kernel_rfl
  i20 := by kernel_rfl
  i37 := by kernel_rfl
  i46 := by kernel_rfl
  i51 := by kernel_rfl
  i53 := by kernel_rfl
  i75 := by kernel_rfl
  i80 := by kernel_rfl
  i127 := by kernel_rfl
  i143 := by kernel_rfl
  i145 := by kernel_rfl
  i167 := by kernel_rfl
  i168 := by kernel_rfl
  i171 := by kernel_rfl
  i173 := by kernel_rfl
  i210 := by kernel_rfl
  i212 := by kernel_rfl
  i232 := by kernel_rfl
  i233 := by kernel_rfl
  m15 := by kernel_rfl
  m16 := by kernel_rfl
  m17 := by kernel_rfl
  m18 := by kernel_rfl
  m19 := by kernel_rfl
  c0 := by kernel_rfl
  c2 := by kernel_rfl
  c3 := by kernel_rfl
  c4 := by kernel_rfl
  c5 := by kernel_rfl
  c9 := by kernel_rfl
  c20 := by kernel_rfl
  c37 := by kernel_rfl
  c46 := by kernel_rfl
  c51 := by kernel_rfl
  c53 := by kernel_rfl
  c75 := by kernel_rfl
  c80 := by kernel_rfl
  c127 := by kernel_rfl
  c143 := by kernel_rfl
  c145 := by kernel_rfl
  c167 := by kernel_rfl
  c168 := by kernel_rfl
  c171 := by kernel_rfl
  c173 := by kernel_rfl
  c210 := by kernel_rfl
  c212 := by kernel_rfl
  c213 := by kernel_rfl
  c232 := by kernel_rfl
  c233 := by kernel_rfl }
open Go.RowKit in
/-- strconv.toError, at the inner package's ErrSyntax: 'syntaxError(fn, s)' as an error: A *NumError IN A NEW BLOCK. (LAID: no walk: one application.) -/
theorem Tryd.strconv_toError_syntax (fn s : ByteArray) (base bits : Int) (ev : Value) (w : World) (hlim : s.size ≤ 281474976710656) (hv : w.cell? ⟨3, 0, none⟩ = some ev) (hev : ev = .nilIface ∨ ∃ te pe, ev = .iface te pe) :
    Calls Tryd.prog 44 #[.string fn, .string s, .int .i64 base, .int .i64 bits, .iface 77 (.int .i64 2)] w fun e w' => ∃ N, e = .returned (.iface 80 (.pointer (some ⟨N, 0, none⟩))) ∧ w.heap.size ≤ N ∧ w'.heap[N]? = some (.cells #[.string fn, .string s, ev] 107 (0, 0)) ∧ Below w.heap.size w w' := Any.strconv_toError_syntax Tryd.laysC245 fn s base bits ev w hlim hv hev
def Tryd.laysC172_ren : Go.Shelf.Ren := ⟨fun | 172 => 28 | 244 => 43 | 245 => 44 | 247 => 56 | 279 => 57 | 280 => 58 | 281 => 59 | 282 => 60 | 287 => 75 | 316 => 76 | 171 => 19 | 205 => 77 | 321 => 88 | 322 => 89 | 243 => 38 | 246 => 49 | 283 => 63 | 284 => 64 | 285 => 65 | 286 => 66 | 129 => 81 | 317 => 80 | 318 => 82 | 319 => 83 | 320 => 84 | 337 => 90 | 338 => 91 | n => n, fun | 9 => 9 | 3 => 3 | 75 => 48 | 76 => 49 | 4 => 4 | 5 => 5 | 167 => 77 | 37 => 54 | 0 => 0 | 85 => 78 | 2 => 2 | 168 => 80 | 53 => 92 | 175 => 103 | 46 => 99 | 210 => 107 | 127 => 69 | 145 => 130 | 143 => 128 | 21 => 21 | 171 => 91 | 173 => 95 | 212 => 121 | 51 => 88 | 20 => 20 | 213 => 122 | 232 => 137 | 233 => 138 | 80 => 58 | n => n, fun | 15 => 3 | 16 => 4 | 17 => 5 | 18 => 8 | 19 => 9 | n => n⟩
theorem Tryd.laysC172 : Go.Proofs.LaysC.n172 Tryd.prog Tryd.laysC172_ren := {
  mixed := by kernel_rfl
  f129 := Tryd.func81.trans (congrArg some (by kernel_rfl))
  f171 := Tryd.func19.trans (congrArg some (by kernel_rfl))
  f172 := Tryd.func28.trans (congrArg some (by kernel_rfl))
  f205 := Tryd.func77.trans (congrArg some (by kernel_rfl))
  f243 := Tryd.func38.trans (congrArg some (by kernel_rfl))
  f244 := Tryd.func43.trans (congrArg some (by kernel_rfl))
  f245 := Tryd.func44.trans (congrArg some (by kernel_rfl))
  f246 := Tryd.func49.trans (congrArg some (by kernel_rfl))
  f247 := Tryd.func56.trans (congrArg some (by kernel_rfl))
  f279 := Tryd.func57.trans (congrArg some (by kernel_rfl))
  f280 := Tryd.func58.trans (congrArg some (by kernel_rfl))
  f281 := Tryd.func59.trans (congrArg some (by kernel_rfl))
  f282 := Tryd.func60.trans (congrArg some (by kernel_rfl))
  f283 := Tryd.func63.trans (congrArg some (by kernel_rfl))
  f284 := Tryd.func64.trans (congrArg some (by kernel_rfl))
  f285 := Tryd.func65.trans (congrArg some (by kernel_rfl))
  f286 := Tryd.func66.trans (congrArg some (by kernel_rfl))
  f287 := Tryd.func75.trans (congrArg some (by kernel_rfl))
  f316 := Tryd.func76.trans (congrArg some (by kernel_rfl))
  f317 := Tryd.func80.trans (congrArg some (by kernel_rfl))
  f318 := Tryd.func82.trans (congrArg some (by kernel_rfl))
  f319 := Tryd.func83.trans (congrArg some (by kernel_rfl))
  f320 := Tryd.func84.trans (congrArg some (by kernel_rfl))
  f321 := Tryd.func88.trans (congrArg some (by kernel_rfl))
  f322 := Tryd.func89.trans (congrArg some (by kernel_rfl))
  f337 := Tryd.func90.trans (congrArg some (by kernel_rfl))
  f338 := Tryd.func91.trans (congrArg some (by kernel_rfl))
  t0 := Tryd.underlying0
  a0 := Tryd.isAgg0
  z0 := Tryd.sizeOf0
  v0 := Tryd.zeroValue0
  t2 := Tryd.underlying2
  a2 := Tryd.isAgg2
  z2 := Tryd.sizeOf2
  v2 := Tryd.zeroValue2
  t3 := Tryd.underlying3
  a3 := Tryd.isAgg3
  z3 := Tryd.sizeOf3
  v3 := Tryd.zeroValue3
  t4 := Tryd.underlying4
  a4 := Tryd.isAgg4
  z4 := Tryd.sizeOf4
  v4 := Tryd.zeroValue4
  t5 := Tryd.underlying5
  a5 := Tryd.isAgg5
  z5 := Tryd.sizeOf5
  v5 := Tryd.zeroValue5
  t9 := Tryd.underlying9
  a9 := Tryd.isAgg9
  z9 := Tryd.sizeOf9
  v9 := Tryd.zeroValue9
  t20 := Tryd.underlying20
  a20 := Tryd.isAgg20
  z20 := Tryd.sizeOf20
  v20 := Tryd.zeroValue20
  t21 := Tryd.underlying21
  a21 := Tryd.isAgg21
  z21 := Tryd.sizeOf21
  v21 := Tryd.zeroValue21
  t37 := Tryd.underlying54
  a37 := Tryd.isAgg54
  z37 := Tryd.sizeOf54
  v37 := Tryd.zeroValue54
  t46 := Tryd.underlying99
  a46 := Tryd.isAgg99
  z46 := Tryd.sizeOf99
  v46 := Tryd.zeroValue99
  t51 := Tryd.underlying88
  a51 := Tryd.isAgg88
  z51 := Tryd.sizeOf88
  v51 := Tryd.zeroValue88
  t53 := Tryd.underlying92
  a53 := Tryd.isAgg92
  z53 := Tryd.sizeOf92
  v53 := Tryd.zeroValue92
  t75 := Tryd.underlying48
  a75 := Tryd.isAgg48
  z75 := Tryd.sizeOf48
  v75 := Tryd.zeroValue48
  t76 := Tryd.underlying49
  a76 := Tryd.isAgg49
  z76 := Tryd.sizeOf49
  v76 := Tryd.zeroValue49
  t85 := Tryd.underlying78
  a85 := Tryd.isAgg78
  z85 := Tryd.sizeOf78
  v85 := Tryd.zeroValue78
  t127 := Tryd.underlying69
  a127 := Tryd.isAgg69
  z127 := Tryd.sizeOf69
  v127 := Tryd.zeroValue69
  t143 := Tryd.underlying128
  a143 := Tryd.isAgg128
  z143 := Tryd.sizeOf128
  v143 := Tryd.zeroValue128
  t145 := Tryd.underlying130
  a145 := Tryd.isAgg130
  z145 := Tryd.sizeOf130
  v145 := Tryd.zeroValue130
  t167 := Tryd.underlying77
  a167 := Tryd.isAgg77
  z167 := Tryd.sizeOf77
  v167 := Tryd.zeroValue77
  t168 := Tryd.underlying80
  a168 := Tryd.isAgg80
  z168 := Tryd.sizeOf80
  v168 := Tryd.zeroValue80
  t171 := Tryd.underlying91
  a171 := Tryd.isAgg91
  z171 := Tryd.sizeOf91
  v171 := Tryd.zeroValue91
  t173 := Tryd.underlying95
  a173 := Tryd.isAgg95
  z173 := Tryd.sizeOf95
  v173 := Tryd.zeroValue95
  t175 := Tryd.underlying103
  a175 := Tryd.isAgg103
  z175 := Tryd.sizeOf103
  v175 := Tryd.zeroValue103
  t210 := Tryd.underlying107
  a210 := Tryd.isAgg107
  z210 := Tryd.sizeOf107
  v210 := Tryd.zeroValue107
  t212 := Tryd.underlying121
  a212 := Tryd.isAgg121
  z212 := Tryd.sizeOf121
  v212 := Tryd.zeroValue121
  t213 := Tryd.underlying122
  a213 := Tryd.isAgg122
  z213 := Tryd.sizeOf122
  t232 := Tryd.underlying137
  a232 := Tryd.isAgg137
  z232 := Tryd.sizeOf137
  v232 := Tryd.zeroValue137
  t233 := Tryd.underlying138
  a233 := Tryd.isAgg138
  z233 := Tryd.sizeOf138
  v233 := Tryd.zeroValue138
  g15 := by kernel_rfl
  g16 := by kernel_rfl
  g17 := by kernel_rfl
  g18 := by kernel_rfl
  g19 := by kernel_rfl
  t80 := Tryd.underlying58
  a80 := Tryd.isAgg58
  z80 := Tryd.sizeOf58
  v80 := Tryd.zeroValue58
  i0 := by kernel_rfl
  i2 := by kernel_rfl
  i3 := by kernel_rfl
  i4 := by kernel_rfl
  i5 := by kernel_rfl
  i9 := by kernel_rfl
  i20 := by kernel_rfl
  i21 := by kernel_rfl
  i37 := by kernel_rfl
  i46 := by kernel_rfl
  i51 := by kernel_rfl
  i53 := by kernel_rfl
  i75 := by kernel_rfl
  i76 := by kernel_rfl
  i80 := by kernel_rfl
  i85 := by kernel_rfl
  i127 := by kernel_rfl
  i143 := by kernel_rfl
  i145 := by kernel_rfl
  i167 := by kernel_rfl
  i168 := by kernel_rfl
  i171 := by kernel_rfl
  i173 := by kernel_rfl
  i175 := by kernel_rfl
  i210 := by kernel_rfl
  i212 := by kernel_rfl
  i232 := by kernel_rfl
  i233 := by kernel_rfl
  m15 := by kernel_rfl
  m16 := by kernel_rfl
  m17 := by kernel_rfl
  m18 := by kernel_rfl
  m19 := by kernel_rfl
  c0 := by kernel_rfl
  c2 := by kernel_rfl
  c3 := by kernel_rfl
  c4 := by kernel_rfl
  c5 := by kernel_rfl
  c9 := by kernel_rfl
  c20 := by kernel_rfl
  c21 := by kernel_rfl
  c37 := by kernel_rfl
  c46 := by kernel_rfl
  c51 := by kernel_rfl
  c53 := by kernel_rfl
  c75 := by kernel_rfl
  c76 := by kernel_rfl
  c80 := by kernel_rfl
  c85 := by kernel_rfl
  c127 := by kernel_rfl
  c143 := by kernel_rfl
  c145 := by kernel_rfl
  c167 := by kernel_rfl
  c168 := by kernel_rfl
  c171 := by kernel_rfl
  c173 := by kernel_rfl
  c175 := by kernel_rfl
  c210 := by kernel_rfl
  c212 := by kernel_rfl
  c213 := by kernel_rfl
  c232 := by kernel_rfl
  c233 := by kernel_rfl }
open Go.RowKit in
/-- strconv.Atoi, AT EVERY STRING OF AT MOST 18 BYTES THAT IS NO DECIMAL NUMERAL (the empty one too): 0, AND AN ERROR THAT IS NOT nil: a *NumError in a new block N: {Func: "Atoi", Num: s's bytes, Err: what the variable ErrSyntax holds}. Of what was there nothing has turned. (LAID: no walk: one application.) -/
theorem Tryd.strconv_Atoi_err (s : ByteArray) (hl : s.size ≤ 18) (h : Lib.atoi s.data.toList = none) (ev : Value) (w : World) (hv : w.cell? ⟨3, 0, none⟩ = some ev) (hev : ev = .nilIface ∨ ∃ te pe, ev = .iface te pe) :
    Calls Tryd.prog 28 #[.string s] w fun e w' => ∃ N, e = .returned (.tuple #[.int .i64 0, .iface 80 (.pointer (some ⟨N, 0, none⟩))]) ∧ w.heap.size ≤ N ∧ w'.heap[N]? = some (.cells #[.string ⟨#[65, 116, 111, 105]⟩, .string s, ev] 107 (0, 0)) ∧ Below w.heap.size w w' := Any.strconv_Atoi_err Tryd.laysC172 s hl h ev w hv hev
open Go.RowKit in
theorem Tryd.strconv_Atoi_err_var (s : ByteArray) (hl : s.size ≤ 18) (h : Lib.atoi s.data.toList = none) (tp : TypeId) (p : Value) (w : World) (hvar : w.var? Tryd.prog "strconv.ErrSyntax" = some #[.iface tp p]) :
    Calls Tryd.prog 28 #[.string s] w fun e w' => ∃ N, e = .returned (.tuple #[.int .i64 0, .iface 80 (.pointer (some ⟨N, 0, none⟩))]) ∧ w.heap.size ≤ N ∧ w'.heap[N]? = some (.cells #[.string ⟨#[65, 116, 111, 105]⟩, .string s, .iface tp p] 107 (0, 0)) ∧ Below w.heap.size w w' := Any.strconv_Atoi_err_var Tryd.laysC172 s hl h tp p w hvar
def Tryd.lays321_ren : Go.Shelf.Ren := ⟨fun | 321 => 88 | n => n, fun | 5 => 5 | n => n, fun | n => n⟩
theorem Tryd.lays321 : Go.Proofs.Lays.n321 Tryd.prog Tryd.lays321_ren := {
  mixed := by kernel_rfl
  f321 := Tryd.func88.trans (congrArg some (by kernel_rfl))
  t5 := Tryd.underlying5
  a5 := Tryd.isAgg5
  z5 := Tryd.sizeOf5
  v5 := Tryd.zeroValue5 }
open Go.RowKit in
/-- internal/strconv.lower: 'c | ('x' - 'X')': the bit 32 set. The world is as it was. (LAID: no walk: one application.) -/
theorem Tryd.internal_strconv_lower (c : Int) (w : World) :
    Calls Tryd.prog 88 #[.int .u8 c] w fun e w' => e = .returned (.int .u8 (bits .or .u8 c 32)) ∧ w' = w := Any.internal_strconv_lower Tryd.lays321 c w
def Tryd.lays287_ren : Go.Shelf.Ren := ⟨fun | 287 => 75 | 321 => 88 | 322 => 89 | n => n, fun | 9 => 9 | 3 => 3 | 53 => 92 | 75 => 48 | 4 => 4 | 167 => 77 | 5 => 5 | 46 => 99 | 37 => 54 | 0 => 0 | 21 => 21 | 80 => 58 | n => n, fun | n => n⟩
theorem Tryd.lays287 : Go.Proofs.Lays.n287 Tryd.prog Tryd.lays287_ren := {
  mixed := by kernel_rfl
  f287 := Tryd.func75.trans (congrArg some (by kernel_rfl))
  f321 := Tryd.func88.trans (congrArg some (by kernel_rfl))
  f322 := Tryd.func89.trans (congrArg some (by kernel_rfl))
  t0 := Tryd.underlying0
  a0 := Tryd.isAgg0
  z0 := Tryd.sizeOf0
  v0 := Tryd.zeroValue0
  t3 := Tryd.underlying3
  a3 := Tryd.isAgg3
  z3 := Tryd.sizeOf3
  v3 := Tryd.zeroValue3
  t4 := Tryd.underlying4
  a4 := Tryd.isAgg4
  z4 := Tryd.sizeOf4
  v4 := Tryd.zeroValue4
  t5 := Tryd.underlying5
  a5 := Tryd.isAgg5
  z5 := Tryd.sizeOf5
  v5 := Tryd.zeroValue5
  t9 := Tryd.underlying9
  a9 := Tryd.isAgg9
  z9 := Tryd.sizeOf9
  v9 := Tryd.zeroValue9
  t21 := Tryd.underlying21
  a21 := Tryd.isAgg21
  z21 := Tryd.sizeOf21
  v21 := Tryd.zeroValue21
  t37 := Tryd.underlying54
  a37 := Tryd.isAgg54
  z37 := Tryd.sizeOf54
  v37 := Tryd.zeroValue54
  t46 := Tryd.underlying99
  a46 := Tryd.isAgg99
  z46 := Tryd.sizeOf99
  v46 := Tryd.zeroValue99
  t53 := Tryd.underlying92
  a53 := Tryd.isAgg92
  z53 := Tryd.sizeOf92
  v53 := Tryd.zeroValue92
  t75 := Tryd.underlying48
  a75 := Tryd.isAgg48
  z75 := Tryd.sizeOf48
  v75 := Tryd.zeroValue48
  t167 := Tryd.underlying77
  a167 := Tryd.isAgg77
  z167 := Tryd.sizeOf77
  v167 := Tryd.zeroValue77 }
open Go.RowKit in
/-- internal/strconv.ParseUint(s, 10, 0), s NOT EMPTY: 'Lib.parseUint10 0' OF ITS BYTES: the number; or (0, ErrSyntax); or (the greatest uint64, ErrRange). The world behind the call: the one new row that '[]byte(s)' lays. (LAID: no walk: one application.) -/
theorem Tryd.internal_strconv_ParseUint_10 (t : ByteArray) (hne : t.size ≠ 0) (hmax : t.size ≤ 9223372036854775806) (w : World) :
    Calls Tryd.prog 75 #[.string t, .int .i64 10, .int .i64 0] w fun e w' => e = .returned (Lib.uintTuple 77 (Lib.parseUint10 0 t.data.toList)) ∧ w' = Lib.bytesWorld w 5 t := Any.internal_strconv_ParseUint_10 Tryd.lays287 t hne hmax w
open Go.RowKit in
/-- internal/strconv.ParseUint("", 10, 0): (0, ErrSyntax). The world is as it was. (LAID: no walk: one application.) -/
theorem Tryd.internal_strconv_ParseUint_10_empty (w : World) :
    Calls Tryd.prog 75 #[.string ⟨#[]⟩, .int .i64 10, .int .i64 0] w fun e w' => e = .returned (Lib.uintTuple 77 (Lib.parseMag [])) ∧ w' = w := Any.internal_strconv_ParseUint_10_empty Tryd.lays287 w
open Go.RowKit in
/-- internal/strconv.ParseUint(s, 10, 0): 'Lib.parseMag' OF ITS BYTES. The world: as it was (the empty string), or with the one new row that '[]byte(s)' lays. (LAID: no walk: one application.) -/
theorem Tryd.internal_strconv_ParseUint_10_any (t : ByteArray) (hmax : t.size ≤ 9223372036854775806) (w : World) :
    Calls Tryd.prog 75 #[.string t, .int .i64 10, .int .i64 0] w fun e w' => e = .returned (Lib.uintTuple 77 (Lib.parseMag t.data.toList)) ∧ (w' = w ∨ w' = Lib.bytesWorld w 5 t) := Any.internal_strconv_ParseUint_10_any Tryd.lays287 t hmax w
def Tryd.laysC247_ren : Go.Shelf.Ren := ⟨fun | 247 => 56 | 287 => 75 | 321 => 88 | 322 => 89 | n => n, fun | 9 => 9 | 3 => 3 | 2 => 2 | 75 => 48 | 4 => 4 | 167 => 77 | 5 => 5 | 53 => 92 | 175 => 103 | 46 => 99 | 37 => 54 | 0 => 0 | 21 => 21 | 80 => 58 | n => n, fun | n => n⟩
theorem Tryd.laysC247 : Go.Proofs.LaysC.n247 Tryd.prog Tryd.laysC247_ren := {
  mixed := by kernel_rfl
  f247 := Tryd.func56.trans (congrArg some (by kernel_rfl))
  f287 := Tryd.func75.trans (congrArg some (by kernel_rfl))
  f321 := Tryd.func88.trans (congrArg some (by kernel_rfl))
  f322 := Tryd.func89.trans (congrArg some (by kernel_rfl))
  t0 := Tryd.underlying0
  a0 := Tryd.isAgg0
  z0 := Tryd.sizeOf0
  v0 := Tryd.zeroValue0
  t2 := Tryd.underlying2
  a2 := Tryd.isAgg2
  z2 := Tryd.sizeOf2
  v2 := Tryd.zeroValue2
  t3 := Tryd.underlying3
  a3 := Tryd.isAgg3
  z3 := Tryd.sizeOf3
  v3 := Tryd.zeroValue3
  t4 := Tryd.underlying4
  a4 := Tryd.isAgg4
  z4 := Tryd.sizeOf4
  v4 := Tryd.zeroValue4
  t5 := Tryd.underlying5
  a5 := Tryd.isAgg5
  z5 := Tryd.sizeOf5
  v5 := Tryd.zeroValue5
  t9 := Tryd.underlying9
  a9 := Tryd.isAgg9
  z9 := Tryd.sizeOf9
  v9 := Tryd.zeroValue9
  t21 := Tryd.underlying21
  a21 := Tryd.isAgg21
  z21 := Tryd.sizeOf21
  v21 := Tryd.zeroValue21
  t37 := Tryd.underlying54
  a37 := Tryd.isAgg54
  z37 := Tryd.sizeOf54
  v37 := Tryd.zeroValue54
  t46 := Tryd.underlying99
  a46 := Tryd.isAgg99
  z46 := Tryd.sizeOf99
  v46 := Tryd.zeroValue99
  t53 := Tryd.underlying92
  a53 := Tryd.isAgg92
  z53 := Tryd.sizeOf92
  v53 := Tryd.zeroValue92
  t75 := Tryd.underlying48
  a75 := Tryd.isAgg48
  z75 := Tryd.sizeOf48
  v75 := Tryd.zeroValue48
  t167 := Tryd.underlying77
  a167 := Tryd.isAgg77
  z167 := Tryd.sizeOf77
  v167 := Tryd.zeroValue77
  t175 := Tryd.underlying103
  a175 := Tryd.isAgg103
  z175 := Tryd.sizeOf103
  v175 := Tryd.zeroValue103
  t80 := Tryd.underlying58
  a80 := Tryd.isAgg58
  z80 := Tryd.sizeOf58
  v80 := Tryd.zeroValue58
  i0 := by kernel_rfl
  i2 := by kernel_rfl
  i3 := by kernel_rfl
  i4 := by kernel_rfl
  i5 := by kernel_rfl
  i9 := by kernel_rfl
  i21 := by kernel_rfl
  i37 := by kernel_rfl
  i46 := by kernel_rfl
  i53 := by kernel_rfl
  i75 := by kernel_rfl
  i80 := by kernel_rfl
  i167 := by kernel_rfl
  i175 := by kernel_rfl
  c0 := by kernel_rfl
  c2 := by kernel_rfl
  c3 := by kernel_rfl
  c4 := by kernel_rfl
  c5 := by kernel_rfl
  c9 := by kernel_rfl
  c21 := by kernel_rfl
  c37 := by kernel_rfl
  c46 := by kernel_rfl
  c53 := by kernel_rfl
  c75 := by kernel_rfl
  c80 := by kernel_rfl
  c167 := by kernel_rfl
  c175 := by kernel_rfl }
open Go.RowKit in
/-- internal/strconv.ParseInt(s, 10, 0), s NOT EMPTY: 'Lib.atoiAll' OF ITS BYTES: (the number, nil); (0, ErrSyntax); (the greatest or the least int64 by the sign, ErrRange). The world: as it was, or with the one new row that '[]byte(..)' lays. (LAID: no walk: one application.) -/
theorem Tryd.internal_strconv_ParseInt_10 (s : ByteArray) (hne : s.size ≠ 0) (hmax : s.size ≤ 9223372036854775806) (w : World) :
    Calls Tryd.prog 56 #[.string s, .int .i64 10, .int .i64 0] w fun e w' => e = .returned (Lib.intTuple 77 (Lib.atoiSat s.data.toList) (Lib.atoiAll s.data.toList)) ∧ (w' = w ∨ ∃ t, w' = Lib.bytesWorld w 5 t) := Any.internal_strconv_ParseInt_10 Tryd.laysC247 s hne hmax w
def Tryd.laysC244_ren : Go.Shelf.Ren := ⟨fun | 244 => 43 | 247 => 56 | 287 => 75 | 321 => 88 | 322 => 89 | n => n, fun | 9 => 9 | 3 => 3 | 75 => 48 | 4 => 4 | 5 => 5 | 167 => 77 | 37 => 54 | 0 => 0 | 85 => 78 | 2 => 2 | 53 => 92 | 175 => 103 | 46 => 99 | 21 => 21 | 80 => 58 | n => n, fun | n => n⟩
theorem Tryd.laysC244 : Go.Proofs.LaysC.n244 Tryd.prog Tryd.laysC244_ren := {
  mixed := by kernel_rfl
  f244 := Tryd.func43.trans (congrArg some (by kernel_rfl))
  f247 := Tryd.func56.trans (congrArg some (by kernel_rfl))
  f287 := Tryd.func75.trans (congrArg some (by kernel_rfl))
  f321 := Tryd.func88.trans (congrArg some (by kernel_rfl))
  f322 := Tryd.func89.trans (congrArg some (by kernel_rfl))
  t0 := Tryd.underlying0
  a0 := Tryd.isAgg0
  z0 := Tryd.sizeOf0
  v0 := Tryd.zeroValue0
  t2 := Tryd.underlying2
  a2 := Tryd.isAgg2
  z2 := Tryd.sizeOf2
  v2 := Tryd.zeroValue2
  t3 := Tryd.underlying3
  a3 := Tryd.isAgg3
  z3 := Tryd.sizeOf3
  v3 := Tryd.zeroValue3
  t4 := Tryd.underlying4
  a4 := Tryd.isAgg4
  z4 := Tryd.sizeOf4
  v4 := Tryd.zeroValue4
  t5 := Tryd.underlying5
  a5 := Tryd.isAgg5
  z5 := Tryd.sizeOf5
  v5 := Tryd.zeroValue5
  t9 := Tryd.underlying9
  a9 := Tryd.isAgg9
  z9 := Tryd.sizeOf9
  v9 := Tryd.zeroValue9
  t21 := Tryd.underlying21
  a21 := Tryd.isAgg21
  z21 := Tryd.sizeOf21
  v21 := Tryd.zeroValue21
  t37 := Tryd.underlying54
  a37 := Tryd.isAgg54
  z37 := Tryd.sizeOf54
  v37 := Tryd.zeroValue54
  t46 := Tryd.underlying99
  a46 := Tryd.isAgg99
  z46 := Tryd.sizeOf99
  v46 := Tryd.zeroValue99
  t53 := Tryd.underlying92
  a53 := Tryd.isAgg92
  z53 := Tryd.sizeOf92
  v53 := Tryd.zeroValue92
  t75 := Tryd.underlying48
  a75 := Tryd.isAgg48
  z75 := Tryd.sizeOf48
  v75 := Tryd.zeroValue48
  t85 := Tryd.underlying78
  a85 := Tryd.isAgg78
  z85 := Tryd.sizeOf78
  v85 := Tryd.zeroValue78
  t167 := Tryd.underlying77
  a167 := Tryd.isAgg77
  z167 := Tryd.sizeOf77
  v167 := Tryd.zeroValue77
  t175 := Tryd.underlying103
  a175 := Tryd.isAgg103
  z175 := Tryd.sizeOf103
  v175 := Tryd.zeroValue103
  t80 := Tryd.underlying58
  a80 := Tryd.isAgg58
  z80 := Tryd.sizeOf58
  v80 := Tryd.zeroValue58
  i0 := by kernel_rfl
  i2 := by kernel_rfl
  i3 := by kernel_rfl
  i4 := by kernel_rfl
  i5 := by kernel_rfl
  i9 := by kernel_rfl
  i21 := by kernel_rfl
  i37 := by kernel_rfl
  i46 := by kernel_rfl
  i53 := by kernel_rfl
  i75 := by kernel_rfl
  i80 := by kernel_rfl
  i85 := by kernel_rfl
  i167 := by kernel_rfl
  i175 := by kernel_rfl
  c0 := by kernel_rfl
  c2 := by kernel_rfl
  c3 := by kernel_rfl
  c4 := by kernel_rfl
  c5 := by kernel_rfl
  c9 := by kernel_rfl
  c21 := by kernel_rfl
  c37 := by kernel_rfl
  c46 := by kernel_rfl
  c53 := by kernel_rfl
  c75 := by kernel_rfl
  c80 := by kernel_rfl
  c85 := by kernel_rfl
  c167 := by kernel_rfl
  c175 := by kernel_rfl }
open Go.RowKit in
/-- internal/strconv.Atoi, AT EVERY STRING OF 19 BYTES OR MORE: 'Lib.atoiAll' OF ITS BYTES: (the number, nil); (0, ErrSyntax); (the greatest or the least int by the sign, ErrRange). (LAID: no walk: one application.) -/
theorem Tryd.internal_strconv_Atoi_long (s : ByteArray) (h19 : 19 ≤ s.size) (hmax : s.size ≤ 9223372036854775806) (w : World) :
    Calls Tryd.prog 43 #[.string s] w fun e w' => e = .returned (Lib.intTuple 77 (Lib.atoiSat s.data.toList) (Lib.atoiAll s.data.toList)) ∧ (w' = w ∨ ∃ t, w' = Lib.bytesWorld w 5 t) := Any.internal_strconv_Atoi_long Tryd.laysC244 s h19 hmax w
open Go.RowKit in
/-- internal/strconv.Atoi, AT EVERY STRING: 'Lib.atoiAll' OF ITS BYTES: (the number, nil); (0, ErrSyntax); (the greatest or the least int by the sign, ErrRange). The world: as it was, or with the one new row that '[]byte(..)' lays. (LAID: no walk: one application.) -/
theorem Tryd.internal_strconv_Atoi_all (s : ByteArray) (hmax : s.size ≤ 9223372036854775806) (w : World) :
    Calls Tryd.prog 43 #[.string s] w fun e w' => e = .returned (Lib.intTuple 77 (Lib.atoiSat s.data.toList) (Lib.atoiAll s.data.toList)) ∧ (w' = w ∨ ∃ t, w' = Lib.bytesWorld w 5 t) := Any.internal_strconv_Atoi_all Tryd.laysC244 s hmax w
def Tryd.laysM280_ren : Go.Shelf.Ren := ⟨fun | 280 => 58 | 316 => 76 | n => n, fun | 9 => 9 | 168 => 80 | 75 => 48 | 210 => 107 | 3 => 3 | 4 => 4 | 37 => 54 | 0 => 0 | 127 => 69 | 80 => 58 | 5 => 5 | n => n, fun | 16 => 4 | n => n⟩
theorem Tryd.laysM280 : Go.Proofs.LaysM.n280 Tryd.prog Tryd.laysM280_ren := {
  mixed := by kernel_rfl
  f280 := Tryd.func58.trans (congrArg some (by kernel_rfl))
  f316 := Tryd.func76.trans (congrArg some (by kernel_rfl))
  t0 := Tryd.underlying0
  a0 := Tryd.isAgg0
  z0 := Tryd.sizeOf0
  v0 := Tryd.zeroValue0
  t3 := Tryd.underlying3
  a3 := Tryd.isAgg3
  z3 := Tryd.sizeOf3
  v3 := Tryd.zeroValue3
  t4 := Tryd.underlying4
  a4 := Tryd.isAgg4
  z4 := Tryd.sizeOf4
  v4 := Tryd.zeroValue4
  t9 := Tryd.underlying9
  a9 := Tryd.isAgg9
  z9 := Tryd.sizeOf9
  v9 := Tryd.zeroValue9
  t37 := Tryd.underlying54
  a37 := Tryd.isAgg54
  z37 := Tryd.sizeOf54
  v37 := Tryd.zeroValue54
  t75 := Tryd.underlying48
  a75 := Tryd.isAgg48
  z75 := Tryd.sizeOf48
  v75 := Tryd.zeroValue48
  t127 := Tryd.underlying69
  a127 := Tryd.isAgg69
  z127 := Tryd.sizeOf69
  v127 := Tryd.zeroValue69
  t168 := Tryd.underlying80
  a168 := Tryd.isAgg80
  z168 := Tryd.sizeOf80
  v168 := Tryd.zeroValue80
  t210 := Tryd.underlying107
  a210 := Tryd.isAgg107
  z210 := Tryd.sizeOf107
  v210 := Tryd.zeroValue107
  g16 := by kernel_rfl
  t5 := Tryd.underlying5
  a5 := Tryd.isAgg5
  z5 := Tryd.sizeOf5
  v5 := Tryd.zeroValue5
  t80 := Tryd.underlying58
  a80 := Tryd.isAgg58
  z80 := Tryd.sizeOf58
  v80 := Tryd.zeroValue58
  i0 := by kernel_rfl
  i3 := by kernel_rfl
  i4 := by kernel_rfl
  i5 := by kernel_rfl
  i9 := by kernel_rfl
  i37 := by kernel_rfl
  i75 := by kernel_rfl
  i80 := by kernel_rfl
  i127 := by kernel_rfl
  i168 := by kernel_rfl
  i210 := by kernel_rfl
  m16 := by kernel_rfl }
open Go.RowKit in
/-- strconv.rangeError: '&NumError{fn, stringslite.Clone(str), ErrRange}': A POINTER TO A NEW BLOCK that holds fn, str's bytes, and what the variable ErrRange holds. Of what was there nothing has turned. (LAID: no walk: one application.) -/
theorem Tryd.strconv_rangeError (fn s : ByteArray) (ev : Value) (w : World) (hlim : s.size ≤ 281474976710656) (hv : w.cell? ⟨4, 0, none⟩ = some ev) (hev : ev = .nilIface ∨ ∃ te pe, ev = .iface te pe) :
    Calls Tryd.prog 58 #[.string fn, .string s] w fun e w' => ∃ N, e = .returned (.pointer (some ⟨N, 0, none⟩)) ∧ w.heap.size ≤ N ∧ w'.heap[N]? = some (.cells #[.string fn, .string s, ev] 107 (0, 0)) ∧ Below w.heap.size w w' := Any.strconv_rangeError Tryd.laysM280 fn s ev w hlim hv hev
open Go.RowKit in
/-- strconv.toError, at the inner package's ErrRange: 'rangeError(fn, s)' as an error: A *NumError IN A NEW BLOCK. (LAID: no walk: one application.) -/
theorem Tryd.strconv_toError_range (fn s : ByteArray) (base bits : Int) (ev : Value) (w : World) (hlim : s.size ≤ 281474976710656) (hv : w.cell? ⟨4, 0, none⟩ = some ev) (hev : ev = .nilIface ∨ ∃ te pe, ev = .iface te pe) :
    Calls Tryd.prog 44 #[.string fn, .string s, .int .i64 base, .int .i64 bits, .iface 77 (.int .i64 1)] w fun e w' => ∃ N, e = .returned (.iface 80 (.pointer (some ⟨N, 0, none⟩))) ∧ w.heap.size ≤ N ∧ w'.heap[N]? = some (.cells #[.string fn, .string s, ev] 107 (0, 0)) ∧ Below w.heap.size w w' := Any.strconv_toError_range Tryd.laysC245 fn s base bits ev w hlim hv hev
open Go.RowKit in
/-- strconv.Atoi, AT EVERY STRING THAT SPELLS AN int ('Lib.atoiAll .. = .ok v'; of whatever length: leading zeros count): v, AND NO ERROR. The world: as it was, or with the one new row that '[]byte(..)' lays. (LAID: no walk: one application.) -/
theorem Tryd.strconv_Atoi_ok (s : ByteArray) (hmax : s.size ≤ 9223372036854775806) (v : Int) (h : Lib.atoiAll s.data.toList = .ok v) (w : World) :
    Calls Tryd.prog 28 #[.string s] w fun e w' => e = .returned (.tuple #[.int .i64 v, .nilIface]) ∧ (w' = w ∨ ∃ t, w' = Lib.bytesWorld w 5 t) := Any.strconv_Atoi_ok Tryd.laysC172 s hmax v h w
open Go.RowKit in
/-- strconv.Atoi, AT EVERY STRING THAT IS NO DECIMAL NUMERAL ('.syntax'): 0, AND AN ERROR THAT IS NOT nil: a *NumError in a new block N: {Func: "Atoi", Num: s's bytes, Err: what the variable ErrSyntax holds}. Of what was there nothing has turned. (LAID: no walk: one application.) -/
theorem Tryd.strconv_Atoi_syntax (s : ByteArray) (hlim : s.size ≤ 281474976710656) (h : Lib.atoiAll s.data.toList = Lib.atoiAll []) (ev : Value) (w : World) (hv : w.cell? ⟨3, 0, none⟩ = some ev) (hev : ev = .nilIface ∨ ∃ te pe, ev = .iface te pe) :
    Calls Tryd.prog 28 #[.string s] w fun e w' => ∃ N, e = .returned (.tuple #[.int .i64 (0), .iface 80 (.pointer (some ⟨N, 0, none⟩))]) ∧ w.heap.size ≤ N ∧ w'.heap[N]? = some (.cells #[.string ⟨#[65, 116, 111, 105]⟩, .string s, ev] 107 (0, 0)) ∧ Below w.heap.size w w' := Any.strconv_Atoi_syntax Tryd.laysC172 s hlim h ev w hv hev
open Go.RowKit in
/-- strconv.Atoi, AT EVERY NUMERAL THAT NO int HOLDS ('.range'): THE GREATEST OR THE LEAST int, BY THE SIGN ('Lib.atoiSat'), AND AN ERROR THAT IS NOT nil: a *NumError in a new block N: {Func: "Atoi", Num: s's bytes, Err: what the variable ErrRange holds}. Of what was there nothing has turned. (LAID: no walk: one application.) -/
theorem Tryd.strconv_Atoi_range (s : ByteArray) (hlim : s.size ≤ 281474976710656) (h : Lib.atoiAll s.data.toList = .range) (ev : Value) (w : World) (hv : w.cell? ⟨4, 0, none⟩ = some ev) (hev : ev = .nilIface ∨ ∃ te pe, ev = .iface te pe) :
    Calls Tryd.prog 28 #[.string s] w fun e w' => ∃ N, e = .returned (.tuple #[.int .i64 (Lib.atoiSat s.data.toList), .iface 80 (.pointer (some ⟨N, 0, none⟩))]) ∧ w.heap.size ≤ N ∧ w'.heap[N]? = some (.cells #[.string ⟨#[65, 116, 111, 105]⟩, .string s, ev] 107 (0, 0)) ∧ Below w.heap.size w w' := Any.strconv_Atoi_range Tryd.laysC172 s hlim h ev w hv hev
def Tryd.lays217_ren : Go.Shelf.Ren := ⟨fun | 217 => 68 | 266 => 85 | n => n, fun | 9 => 9 | 5 => 5 | 3 => 3 | n => n, fun | n => n⟩
theorem Tryd.lays217 : Go.Proofs.Lays.n217 Tryd.prog Tryd.lays217_ren := {
  mixed := by kernel_rfl
  f217 := Tryd.func68.trans (congrArg some (by kernel_rfl))
  f266 := Tryd.func85.trans (congrArg some (by kernel_rfl))
  t3 := Tryd.underlying3
  a3 := Tryd.isAgg3
  z3 := Tryd.sizeOf3
  v3 := Tryd.zeroValue3
  t5 := Tryd.underlying5
  a5 := Tryd.isAgg5
  z5 := Tryd.sizeOf5
  v5 := Tryd.zeroValue5
  t9 := Tryd.underlying9
  a9 := Tryd.isAgg9
  z9 := Tryd.sizeOf9
  v9 := Tryd.zeroValue9 }
open Go.RowKit Go.Lib in
/-- internal/stringslite.IndexByte (what strings.IndexByte calls): IT RETURNS 'Lib.indexByte s c'; the world is as it was. (LAID: no walk: one application.) -/
theorem Tryd.stringslite_IndexByte (s : ByteArray) (c : Int) (w : World) :
    Calls Tryd.prog 68 #[.string s, .int .u8 c] w fun e w' => e = .returned (.int .i64 (Lib.indexByte s.data.toList c.toNat.toUInt8)) ∧ w' = w := Any.stringslite_IndexByte Tryd.lays217 s c w
def Tryd.lays224_ren : Go.Shelf.Ren := ⟨fun | 224 => 70 | n => n, fun | 3 => 3 | n => n, fun | n => n⟩
theorem Tryd.lays224 : Go.Proofs.Lays.n224 Tryd.prog Tryd.lays224_ren := {
  mixed := by kernel_rfl
  f224 := Tryd.func70.trans (congrArg some (by kernel_rfl))
  t3 := Tryd.underlying3
  a3 := Tryd.isAgg3
  z3 := Tryd.sizeOf3
  v3 := Tryd.zeroValue3 }
open Go.RowKit Go.Lib in
/-- internal/bytealg.Cutover: "Cutover reports the number of failures of IndexByte we should tolerate before switching over to Index. n is the number of bytes processed so far.": on amd64: (n + 16) / 8. (LAID: no walk: one application.) -/
theorem Tryd.bytealg_Cutover (n : Int) (h0 : 0 ≤ n) (h1 : n < 4611686018427387904) (w : World) :
    Calls Tryd.prog 70 #[.int .i64 n] w fun e w' => e = .returned (.int .i64 ((n + 16) / 8)) ∧ w' = w := Any.bytealg_Cutover Tryd.lays224 n h0 h1 w
def Tryd.lays314_ren : Go.Shelf.Ren := ⟨fun | 314 => 86 | n => n, fun | 9 => 9 | 51 => 88 | 3 => 3 | 4 => 4 | 5 => 5 | 46 => 99 | n => n, fun | n => n⟩
theorem Tryd.lays314 : Go.Proofs.Lays.n314 Tryd.prog Tryd.lays314_ren := {
  mixed := by kernel_rfl
  f314 := Tryd.func86.trans (congrArg some (by kernel_rfl))
  t3 := Tryd.underlying3
  a3 := Tryd.isAgg3
  z3 := Tryd.sizeOf3
  v3 := Tryd.zeroValue3
  t4 := Tryd.underlying4
  a4 := Tryd.isAgg4
  z4 := Tryd.sizeOf4
  v4 := Tryd.zeroValue4
  t5 := Tryd.underlying5
  a5 := Tryd.isAgg5
  z5 := Tryd.sizeOf5
  v5 := Tryd.zeroValue5
  t9 := Tryd.underlying9
  a9 := Tryd.isAgg9
  z9 := Tryd.sizeOf9
  v9 := Tryd.zeroValue9
  t46 := Tryd.underlying99
  a46 := Tryd.isAgg99
  z46 := Tryd.sizeOf99
  v46 := Tryd.zeroValue99
  t51 := Tryd.underlying88
  a51 := Tryd.isAgg88
  z51 := Tryd.sizeOf88
  v51 := Tryd.zeroValue88 }
open Go.RowKit Go.Lib in
/-- hashStr: "returns the hash and the appropriate multiplicative factor for use in Rabin-Karp algorithm": THE HASH OF ALL OF sep, AND 16777619 ^ len(sep), both in uint32. (LAID: no walk: one application.) -/
theorem Tryd.bytealg_hashStr (sep : ByteArray) (hs : sep.size < 4294967281) (w : World) :
    Calls Tryd.prog 86 #[.string sep] w fun e w' => e = .returned (.tuple #[.int .u32 (RK.H sep.data.toList % 4294967296), .int .u32 (16777619 ^ sep.size % 4294967296)]) ∧ w' = w := Any.bytealg_hashStr Tryd.lays314 sep hs w
def Tryd.lays267_ren : Go.Shelf.Ren := ⟨fun | 267 => 71 | 314 => 86 | n => n, fun | 9 => 9 | 3 => 3 | 146 => 125 | 51 => 88 | 4 => 4 | 5 => 5 | 46 => 99 | n => n, fun | n => n⟩
theorem Tryd.lays267 : Go.Proofs.Lays.n267 Tryd.prog Tryd.lays267_ren := {
  mixed := by kernel_rfl
  f267 := Tryd.func71.trans (congrArg some (by kernel_rfl))
  f314 := Tryd.func86.trans (congrArg some (by kernel_rfl))
  t3 := Tryd.underlying3
  a3 := Tryd.isAgg3
  z3 := Tryd.sizeOf3
  v3 := Tryd.zeroValue3
  t4 := Tryd.underlying4
  a4 := Tryd.isAgg4
  z4 := Tryd.sizeOf4
  v4 := Tryd.zeroValue4
  t5 := Tryd.underlying5
  a5 := Tryd.isAgg5
  z5 := Tryd.sizeOf5
  v5 := Tryd.zeroValue5
  t9 := Tryd.underlying9
  a9 := Tryd.isAgg9
  z9 := Tryd.sizeOf9
  v9 := Tryd.zeroValue9
  t46 := Tryd.underlying99
  a46 := Tryd.isAgg99
  z46 := Tryd.sizeOf99
  v46 := Tryd.zeroValue99
  t51 := Tryd.underlying88
  a51 := Tryd.isAgg88
  z51 := Tryd.sizeOf88
  v51 := Tryd.zeroValue88
  t146 := Tryd.underlying125
  a146 := Tryd.isAgg125
  z146 := Tryd.sizeOf125
  v146 := Tryd.zeroValue125 }
open Go.RowKit Go.Lib in
theorem Tryd.bytealg_IndexRabinKarp (s sep : ByteArray) (h1 : 1 ≤ sep.size) (h2 : sep.size ≤ s.size) (hs : s.size < 4294967281) (w : World) :
    Calls Tryd.prog 71 #[.string s, .string sep] w fun e w' => e = .returned (.int .i64 (Lib.index s.data.toList sep.data.toList)) ∧ w' = w := Any.bytealg_IndexRabinKarp Tryd.lays267 s sep h1 h2 hs w
def Tryd.lays219_ren : Go.Shelf.Ren := ⟨fun | 219 => 51 | 217 => 68 | 225 => 69 | 224 => 70 | 267 => 71 | 266 => 85 | 314 => 86 | n => n, fun | 9 => 9 | 3 => 3 | 4 => 4 | 5 => 5 | 46 => 99 | 146 => 125 | 51 => 88 | n => n, fun | 1 => 2 | n => n⟩
theorem Tryd.lays219 : Go.Proofs.Lays.n219 Tryd.prog Tryd.lays219_ren := {
  mixed := by kernel_rfl
  f217 := Tryd.func68.trans (congrArg some (by kernel_rfl))
  f219 := Tryd.func51.trans (congrArg some (by kernel_rfl))
  f224 := Tryd.func70.trans (congrArg some (by kernel_rfl))
  f225 := Tryd.func69.trans (congrArg some (by kernel_rfl))
  f266 := Tryd.func85.trans (congrArg some (by kernel_rfl))
  f267 := Tryd.func71.trans (congrArg some (by kernel_rfl))
  f314 := Tryd.func86.trans (congrArg some (by kernel_rfl))
  t3 := Tryd.underlying3
  a3 := Tryd.isAgg3
  z3 := Tryd.sizeOf3
  v3 := Tryd.zeroValue3
  t4 := Tryd.underlying4
  a4 := Tryd.isAgg4
  z4 := Tryd.sizeOf4
  v4 := Tryd.zeroValue4
  t5 := Tryd.underlying5
  a5 := Tryd.isAgg5
  z5 := Tryd.sizeOf5
  v5 := Tryd.zeroValue5
  t9 := Tryd.underlying9
  a9 := Tryd.isAgg9
  z9 := Tryd.sizeOf9
  v9 := Tryd.zeroValue9
  t46 := Tryd.underlying99
  a46 := Tryd.isAgg99
  z46 := Tryd.sizeOf99
  v46 := Tryd.zeroValue99
  t51 := Tryd.underlying88
  a51 := Tryd.isAgg88
  z51 := Tryd.sizeOf88
  v51 := Tryd.zeroValue88
  t146 := Tryd.underlying125
  a146 := Tryd.isAgg125
  z146 := Tryd.sizeOf125
  v146 := Tryd.zeroValue125
  g1 := by kernel_rfl }
open Go.RowKit Go.Lib in
/-- internal/stringslite.Index (what strings.Index calls) AT A substr OF ONE BYTE c: IT RETURNS 'Lib.indexByte s c'; the world is as it was. (LAID: no walk: one application.) -/
theorem Tryd.stringslite_Index_one (s : ByteArray) (c : UInt8) (w : World) :
    Calls Tryd.prog 51 #[.string s, .string ⟨#[c]⟩] w fun e w' => e = .returned (.int .i64 (Lib.indexByte s.data.toList c)) ∧ w' = w := Any.stringslite_Index_one Tryd.lays219 s c w
open Go.RowKit Go.Lib in
/-- internal/stringslite.Index (what strings.Index calls) AT A substr OF WHATEVER LENGTH: IT RETURNS 'Lib.index s substr'; the world is as it was. 'm': what internal/bytealg.MaxLen holds: whatever. (LAID: no walk: one application.) -/
theorem Tryd.stringslite_Index (s sub : ByteArray) (m : Int) (w : World) (hs : s.size < 4294967281) (hm : w.cell? ⟨2, 0, none⟩ = some (.int .i64 m)) :
    Calls Tryd.prog 51 #[.string s, .string sub] w fun e w' => e = .returned (.int .i64 (Lib.index s.data.toList sub.data.toList)) ∧ w' = w := Any.stringslite_Index Tryd.lays219 s sub m w hs hm
def Tryd.lays143_ren : Go.Shelf.Ren := ⟨fun | 143 => 55 | 219 => 51 | 217 => 68 | 225 => 69 | 224 => 70 | 267 => 71 | 266 => 85 | 314 => 86 | n => n, fun | 9 => 9 | 3 => 3 | 4 => 4 | 5 => 5 | 46 => 99 | 146 => 125 | 51 => 88 | n => n, fun | 1 => 2 | n => n⟩
theorem Tryd.lays143 : Go.Proofs.Lays.n143 Tryd.prog Tryd.lays143_ren := {
  mixed := by kernel_rfl
  f143 := Tryd.func55.trans (congrArg some (by kernel_rfl))
  f217 := Tryd.func68.trans (congrArg some (by kernel_rfl))
  f219 := Tryd.func51.trans (congrArg some (by kernel_rfl))
  f224 := Tryd.func70.trans (congrArg some (by kernel_rfl))
  f225 := Tryd.func69.trans (congrArg some (by kernel_rfl))
  f266 := Tryd.func85.trans (congrArg some (by kernel_rfl))
  f267 := Tryd.func71.trans (congrArg some (by kernel_rfl))
  f314 := Tryd.func86.trans (congrArg some (by kernel_rfl))
  t3 := Tryd.underlying3
  a3 := Tryd.isAgg3
  z3 := Tryd.sizeOf3
  v3 := Tryd.zeroValue3
  t4 := Tryd.underlying4
  a4 := Tryd.isAgg4
  z4 := Tryd.sizeOf4
  v4 := Tryd.zeroValue4
  t5 := Tryd.underlying5
  a5 := Tryd.isAgg5
  z5 := Tryd.sizeOf5
  v5 := Tryd.zeroValue5
  t9 := Tryd.underlying9
  a9 := Tryd.isAgg9
  z9 := Tryd.sizeOf9
  v9 := Tryd.zeroValue9
  t46 := Tryd.underlying99
  a46 := Tryd.isAgg99
  z46 := Tryd.sizeOf99
  v46 := Tryd.zeroValue99
  t51 := Tryd.underlying88
  a51 := Tryd.isAgg88
  z51 := Tryd.sizeOf88
  v51 := Tryd.zeroValue88
  t146 := Tryd.underlying125
  a146 := Tryd.isAgg125
  z146 := Tryd.sizeOf125
  v146 := Tryd.zeroValue125
  g1 := by kernel_rfl }
open Go.RowKit Go.Lib in
/-- strings.Index: "Index returns the index of the first instance of substr in s, or -1 if substr is not present in s.": AT A substr OF ONE BYTE c: IT RETURNS 'Lib.indexByte s c'; the world is as it was. (LAID: no walk: one application.) -/
theorem Tryd.strings_Index_one (s : ByteArray) (c : UInt8) (w : World) :
    Calls Tryd.prog 55 #[.string s, .string ⟨#[c]⟩] w fun e w' => e = .returned (.int .i64 (Lib.indexByte s.data.toList c)) ∧ w' = w := Any.strings_Index_one Tryd.lays143 s c w
open Go.RowKit Go.Lib in
/-- strings.Index: "Index returns the index of the first instance of substr in s, or -1 if substr is not present in s.": IT RETURNS 'Lib.index s substr'; the world is as it was. (LAID: no walk: one application.) -/
theorem Tryd.strings_Index (s sub : ByteArray) (m : Int) (w : World) (hs : s.size < 4294967281) (hm : w.cell? ⟨2, 0, none⟩ = some (.int .i64 m)) :
    Calls Tryd.prog 55 #[.string s, .string sub] w fun e w' => e = .returned (.int .i64 (Lib.index s.data.toList sub.data.toList)) ∧ w' = w := Any.strings_Index Tryd.lays143 s sub m w hs hm
def Tryd.lays220_ren : Go.Shelf.Ren := ⟨fun | 220 => 40 | 219 => 51 | 217 => 68 | 225 => 69 | 224 => 70 | 267 => 71 | 266 => 85 | 314 => 86 | n => n, fun | 9 => 9 | 4 => 4 | 3 => 3 | 5 => 5 | 46 => 99 | 146 => 125 | 51 => 88 | n => n, fun | 1 => 2 | n => n⟩
theorem Tryd.lays220 : Go.Proofs.Lays.n220 Tryd.prog Tryd.lays220_ren := {
  mixed := by kernel_rfl
  f217 := Tryd.func68.trans (congrArg some (by kernel_rfl))
  f219 := Tryd.func51.trans (congrArg some (by kernel_rfl))
  f220 := Tryd.func40.trans (congrArg some (by kernel_rfl))
  f224 := Tryd.func70.trans (congrArg some (by kernel_rfl))
  f225 := Tryd.func69.trans (congrArg some (by kernel_rfl))
  f266 := Tryd.func85.trans (congrArg some (by kernel_rfl))
  f267 := Tryd.func71.trans (congrArg some (by kernel_rfl))
  f314 := Tryd.func86.trans (congrArg some (by kernel_rfl))
  t3 := Tryd.underlying3
  a3 := Tryd.isAgg3
  z3 := Tryd.sizeOf3
  v3 := Tryd.zeroValue3
  t4 := Tryd.underlying4
  a4 := Tryd.isAgg4
  z4 := Tryd.sizeOf4
  v4 := Tryd.zeroValue4
  t5 := Tryd.underlying5
  a5 := Tryd.isAgg5
  z5 := Tryd.sizeOf5
  v5 := Tryd.zeroValue5
  t9 := Tryd.underlying9
  a9 := Tryd.isAgg9
  z9 := Tryd.sizeOf9
  v9 := Tryd.zeroValue9
  t46 := Tryd.underlying99
  a46 := Tryd.isAgg99
  z46 := Tryd.sizeOf99
  v46 := Tryd.zeroValue99
  t51 := Tryd.underlying88
  a51 := Tryd.isAgg88
  z51 := Tryd.sizeOf88
  v51 := Tryd.zeroValue88
  t146 := Tryd.underlying125
  a146 := Tryd.isAgg125
  z146 := Tryd.sizeOf125
  v146 := Tryd.zeroValue125
  g1 := by kernel_rfl }
open Go.RowKit Go.Lib in
/-- internal/stringslite.Cut (what strings.Cut calls): IT RETURNS 'Lib.cut s sep'; the world is as it was but for the count of draws. (LAID: no walk: one application.) -/
theorem Tryd.stringslite_Cut (s sep : ByteArray) (m : Int) (w : World) (hs : s.size < 4294967281) (hm : w.cell? ⟨2, 0, none⟩ = some (.int .i64 m)) :
    Calls Tryd.prog 40 #[.string s, .string sep] w fun e w' => e = .returned (.tuple #[.string ⟨(Lib.cut s.data.toList sep.data.toList).1.toArray⟩, .string ⟨(Lib.cut s.data.toList sep.data.toList).2.1.toArray⟩, .bool (Lib.cut s.data.toList sep.data.toList).2.2]) ∧ ∃ n, w' = w.drewN n := Any.stringslite_Cut Tryd.lays220 s sep m w hs hm
def Tryd.lays145_ren : Go.Shelf.Ren := ⟨fun | 145 => 24 | 220 => 40 | 219 => 51 | 217 => 68 | 225 => 69 | 224 => 70 | 267 => 71 | 266 => 85 | 314 => 86 | n => n, fun | 9 => 9 | 4 => 4 | 59 => 42 | 3 => 3 | 5 => 5 | 46 => 99 | 146 => 125 | 51 => 88 | n => n, fun | 1 => 2 | n => n⟩
theorem Tryd.lays145 : Go.Proofs.Lays.n145 Tryd.prog Tryd.lays145_ren := {
  mixed := by kernel_rfl
  f145 := Tryd.func24.trans (congrArg some (by kernel_rfl))
  f217 := Tryd.func68.trans (congrArg some (by kernel_rfl))
  f219 := Tryd.func51.trans (congrArg some (by kernel_rfl))
  f220 := Tryd.func40.trans (congrArg some (by kernel_rfl))
  f224 := Tryd.func70.trans (congrArg some (by kernel_rfl))
  f225 := Tryd.func69.trans (congrArg some (by kernel_rfl))
  f266 := Tryd.func85.trans (congrArg some (by kernel_rfl))
  f267 := Tryd.func71.trans (congrArg some (by kernel_rfl))
  f314 := Tryd.func86.trans (congrArg some (by kernel_rfl))
  t3 := Tryd.underlying3
  a3 := Tryd.isAgg3
  z3 := Tryd.sizeOf3
  v3 := Tryd.zeroValue3
  t4 := Tryd.underlying4
  a4 := Tryd.isAgg4
  z4 := Tryd.sizeOf4
  v4 := Tryd.zeroValue4
  t5 := Tryd.underlying5
  a5 := Tryd.isAgg5
  z5 := Tryd.sizeOf5
  v5 := Tryd.zeroValue5
  t9 := Tryd.underlying9
  a9 := Tryd.isAgg9
  z9 := Tryd.sizeOf9
  v9 := Tryd.zeroValue9
  t46 := Tryd.underlying99
  a46 := Tryd.isAgg99
  z46 := Tryd.sizeOf99
  v46 := Tryd.zeroValue99
  t51 := Tryd.underlying88
  a51 := Tryd.isAgg88
  z51 := Tryd.sizeOf88
  v51 := Tryd.zeroValue88
  t59 := Tryd.underlying42
  a59 := Tryd.isAgg42
  z59 := Tryd.sizeOf42
  v59 := Tryd.zeroValue42
  t146 := Tryd.underlying125
  a146 := Tryd.isAgg125
  z146 := Tryd.sizeOf125
  v146 := Tryd.zeroValue125
  g1 := by kernel_rfl }
open Go.RowKit Go.Lib in
/-- strings.Cut: "Cut slices s around the first instance of sep, returning the text before and after sep. The found result reports whether sep appears in s. If sep does not appear in s, cut returns s, "", false.": IT RETURNS 'Lib.cut s sep'; the world is as it was but for the count of draws. (LAID: no walk: one application.) -/
theorem Tryd.strings_Cut (s sep : ByteArray) (m : Int) (w : World) (hs : s.size < 4294967281) (hm : w.cell? ⟨2, 0, none⟩ = some (.int .i64 m)) :
    Calls Tryd.prog 24 #[.string s, .string sep] w fun e w' => e = .returned (.tuple #[.string ⟨(Lib.cut s.data.toList sep.data.toList).1.toArray⟩, .string ⟨(Lib.cut s.data.toList sep.data.toList).2.1.toArray⟩, .bool (Lib.cut s.data.toList sep.data.toList).2.2]) ∧ ∃ n, w' = w.drewN n := Any.strings_Cut Tryd.lays145 s sep m w hs hm
def Tryd.lays138_ren : Go.Shelf.Ren := ⟨fun | 138 => 54 | 195 => 72 | 218 => 74 | 143 => 55 | 219 => 51 | 217 => 68 | 225 => 69 | 224 => 70 | 267 => 71 | 266 => 85 | 314 => 86 | n => n, fun | 9 => 9 | 3 => 3 | 4 => 4 | 5 => 5 | 0 => 0 | 46 => 99 | 146 => 125 | 51 => 88 | n => n, fun | 1 => 2 | n => n⟩
theorem Tryd.lays138 : Go.Proofs.Lays.n138 Tryd.prog Tryd.lays138_ren := {
  mixed := by kernel_rfl
  f138 := Tryd.func54.trans (congrArg some (by kernel_rfl))
  f143 := Tryd.func55.trans (congrArg some (by kernel_rfl))
  f195 := Tryd.func72.trans (congrArg some (by kernel_rfl))
  f217 := Tryd.func68.trans (congrArg some (by kernel_rfl))
  f218 := Tryd.func74.trans (congrArg some (by kernel_rfl))
  f219 := Tryd.func51.trans (congrArg some (by kernel_rfl))
  f224 := Tryd.func70.trans (congrArg some (by kernel_rfl))
  f225 := Tryd.func69.trans (congrArg some (by kernel_rfl))
  f266 := Tryd.func85.trans (congrArg some (by kernel_rfl))
  f267 := Tryd.func71.trans (congrArg some (by kernel_rfl))
  f314 := Tryd.func86.trans (congrArg some (by kernel_rfl))
  t0 := Tryd.underlying0
  a0 := Tryd.isAgg0
  z0 := Tryd.sizeOf0
  v0 := Tryd.zeroValue0
  t3 := Tryd.underlying3
  a3 := Tryd.isAgg3
  z3 := Tryd.sizeOf3
  v3 := Tryd.zeroValue3
  t4 := Tryd.underlying4
  a4 := Tryd.isAgg4
  z4 := Tryd.sizeOf4
  v4 := Tryd.zeroValue4
  t5 := Tryd.underlying5
  a5 := Tryd.isAgg5
  z5 := Tryd.sizeOf5
  v5 := Tryd.zeroValue5
  t9 := Tryd.underlying9
  a9 := Tryd.isAgg9
  z9 := Tryd.sizeOf9
  v9 := Tryd.zeroValue9
  t46 := Tryd.underlying99
  a46 := Tryd.isAgg99
  z46 := Tryd.sizeOf99
  v46 := Tryd.zeroValue99
  t51 := Tryd.underlying88
  a51 := Tryd.isAgg88
  z51 := Tryd.sizeOf88
  v51 := Tryd.zeroValue88
  t146 := Tryd.underlying125
  a146 := Tryd.isAgg125
  z146 := Tryd.sizeOf125
  v146 := Tryd.zeroValue125
  g1 := by kernel_rfl }
open Go.RowKit Go.Lib in
/-- strings.Count AT A substr OF ONE BYTE ('hp'): "Count counts the number of non-overlapping instances of substr in s.": IT RETURNS 'Lib.countByte s (that byte)'; the world is as it was. ✋ NO CONTRACT HERE YET at an empty substr (utf8.RuneCountInString) or at a longer one (a loop over strings.Index). (LAID: no walk: one application.) -/
theorem Tryd.strings_Count_one (s : ByteArray) (c : UInt8) (w : World) :
    Calls Tryd.prog 54 #[.string s, .string ⟨#[c]⟩] w fun e w' => e = .returned (.int .i64 (Lib.countByte s.data.toList c)) ∧ w' = w := Any.strings_Count_one Tryd.lays138 s c w
open Go.RowKit Go.Lib in
/-- strings.Count AT A substr OF TWO BYTES OR MORE: "Count counts the number of non-overlapping instances of substr in s.": IT RETURNS 'Lib.count s substr'; the world is as it was. (LAID: no walk: one application.) -/
theorem Tryd.strings_Count (s sub : ByteArray) (m : Int) (w : World) (hs : s.size < 4294967281) (hm : w.cell? ⟨2, 0, none⟩ = some (.int .i64 m)) (h2 : 2 ≤ sub.size) :
    Calls Tryd.prog 54 #[.string s, .string sub] w fun e w' => e = .returned (.int .i64 (Lib.countB s sub)) ∧ w' = w := Any.strings_Count Tryd.lays138 s sub m w hs hm h2
def Tryd.laysM219_ren : Go.Shelf.Ren := ⟨fun | 219 => 51 | 217 => 68 | 225 => 69 | 224 => 70 | 267 => 71 | 266 => 85 | 314 => 86 | n => n, fun | 9 => 9 | 3 => 3 | 4 => 4 | 5 => 5 | 46 => 99 | 146 => 125 | 51 => 88 | n => n, fun | 1 => 2 | n => n⟩
theorem Tryd.laysM219 : Go.Proofs.LaysM.n219 Tryd.prog Tryd.laysM219_ren := {
  mixed := by kernel_rfl
  f217 := Tryd.func68.trans (congrArg some (by kernel_rfl))
  f219 := Tryd.func51.trans (congrArg some (by kernel_rfl))
  f224 := Tryd.func70.trans (congrArg some (by kernel_rfl))
  f225 := Tryd.func69.trans (congrArg some (by kernel_rfl))
  f266 := Tryd.func85.trans (congrArg some (by kernel_rfl))
  f267 := Tryd.func71.trans (congrArg some (by kernel_rfl))
  f314 := Tryd.func86.trans (congrArg some (by kernel_rfl))
  t3 := Tryd.underlying3
  a3 := Tryd.isAgg3
  z3 := Tryd.sizeOf3
  v3 := Tryd.zeroValue3
  t4 := Tryd.underlying4
  a4 := Tryd.isAgg4
  z4 := Tryd.sizeOf4
  v4 := Tryd.zeroValue4
  t5 := Tryd.underlying5
  a5 := Tryd.isAgg5
  z5 := Tryd.sizeOf5
  v5 := Tryd.zeroValue5
  t9 := Tryd.underlying9
  a9 := Tryd.isAgg9
  z9 := Tryd.sizeOf9
  v9 := Tryd.zeroValue9
  t46 := Tryd.underlying99
  a46 := Tryd.isAgg99
  z46 := Tryd.sizeOf99
  v46 := Tryd.zeroValue99
  t51 := Tryd.underlying88
  a51 := Tryd.isAgg88
  z51 := Tryd.sizeOf88
  v51 := Tryd.zeroValue88
  t146 := Tryd.underlying125
  a146 := Tryd.isAgg125
  z146 := Tryd.sizeOf125
  v146 := Tryd.zeroValue125
  g1 := by kernel_rfl
  i3 := by kernel_rfl
  i4 := by kernel_rfl
  i5 := by kernel_rfl
  i9 := by kernel_rfl
  i46 := by kernel_rfl
  i51 := by kernel_rfl
  i146 := by kernel_rfl
  m1 := by kernel_rfl
  s1_3 := fun w h => Go.Proofs.cell_of_shapedOpen_int (zero := #[.int .i64 0]) (t := 3) h (of_decide_eq_true (by kernel_rfl)) (by kernel_rfl) rfl (by kernel_rfl) (by kernel_rfl) Tryd.underlying3 }
open Go.RowKit Go.Lib in
theorem Tryd.stringslite_Index_shaped (s sub : ByteArray) (w : World) (h : w.ShapedOpen Tryd.prog) (hs : s.size < 4294967281) :
    Calls Tryd.prog 51 #[.string s, .string sub] w fun e w' => e = .returned (.int .i64 (Lib.index s.data.toList sub.data.toList)) ∧ w' = w := Any.stringslite_Index_shaped Tryd.laysM219 s sub w h hs
def Tryd.laysM143_ren : Go.Shelf.Ren := ⟨fun | 143 => 55 | 219 => 51 | 217 => 68 | 225 => 69 | 224 => 70 | 267 => 71 | 266 => 85 | 314 => 86 | n => n, fun | 9 => 9 | 3 => 3 | 4 => 4 | 5 => 5 | 46 => 99 | 146 => 125 | 51 => 88 | n => n, fun | 1 => 2 | n => n⟩
theorem Tryd.laysM143 : Go.Proofs.LaysM.n143 Tryd.prog Tryd.laysM143_ren := {
  mixed := by kernel_rfl
  f143 := Tryd.func55.trans (congrArg some (by kernel_rfl))
  f217 := Tryd.func68.trans (congrArg some (by kernel_rfl))
  f219 := Tryd.func51.trans (congrArg some (by kernel_rfl))
  f224 := Tryd.func70.trans (congrArg some (by kernel_rfl))
  f225 := Tryd.func69.trans (congrArg some (by kernel_rfl))
  f266 := Tryd.func85.trans (congrArg some (by kernel_rfl))
  f267 := Tryd.func71.trans (congrArg some (by kernel_rfl))
  f314 := Tryd.func86.trans (congrArg some (by kernel_rfl))
  t3 := Tryd.underlying3
  a3 := Tryd.isAgg3
  z3 := Tryd.sizeOf3
  v3 := Tryd.zeroValue3
  t4 := Tryd.underlying4
  a4 := Tryd.isAgg4
  z4 := Tryd.sizeOf4
  v4 := Tryd.zeroValue4
  t5 := Tryd.underlying5
  a5 := Tryd.isAgg5
  z5 := Tryd.sizeOf5
  v5 := Tryd.zeroValue5
  t9 := Tryd.underlying9
  a9 := Tryd.isAgg9
  z9 := Tryd.sizeOf9
  v9 := Tryd.zeroValue9
  t46 := Tryd.underlying99
  a46 := Tryd.isAgg99
  z46 := Tryd.sizeOf99
  v46 := Tryd.zeroValue99
  t51 := Tryd.underlying88
  a51 := Tryd.isAgg88
  z51 := Tryd.sizeOf88
  v51 := Tryd.zeroValue88
  t146 := Tryd.underlying125
  a146 := Tryd.isAgg125
  z146 := Tryd.sizeOf125
  v146 := Tryd.zeroValue125
  g1 := by kernel_rfl
  i3 := by kernel_rfl
  i4 := by kernel_rfl
  i5 := by kernel_rfl
  i9 := by kernel_rfl
  i46 := by kernel_rfl
  i51 := by kernel_rfl
  i146 := by kernel_rfl
  m1 := by kernel_rfl
  s1_3 := fun w h => Go.Proofs.cell_of_shapedOpen_int (zero := #[.int .i64 0]) (t := 3) h (of_decide_eq_true (by kernel_rfl)) (by kernel_rfl) rfl (by kernel_rfl) (by kernel_rfl) Tryd.underlying3 }
open Go.RowKit Go.Lib in
theorem Tryd.strings_Index_shaped (s sub : ByteArray) (w : World) (h : w.ShapedOpen Tryd.prog) (hs : s.size < 4294967281) :
    Calls Tryd.prog 55 #[.string s, .string sub] w fun e w' => e = .returned (.int .i64 (Lib.index s.data.toList sub.data.toList)) ∧ w' = w := Any.strings_Index_shaped Tryd.laysM143 s sub w h hs
def Tryd.laysM220_ren : Go.Shelf.Ren := ⟨fun | 220 => 40 | 219 => 51 | 217 => 68 | 225 => 69 | 224 => 70 | 267 => 71 | 266 => 85 | 314 => 86 | n => n, fun | 9 => 9 | 4 => 4 | 3 => 3 | 5 => 5 | 46 => 99 | 146 => 125 | 51 => 88 | n => n, fun | 1 => 2 | n => n⟩
theorem Tryd.laysM220 : Go.Proofs.LaysM.n220 Tryd.prog Tryd.laysM220_ren := {
  mixed := by kernel_rfl
  f217 := Tryd.func68.trans (congrArg some (by kernel_rfl))
  f219 := Tryd.func51.trans (congrArg some (by kernel_rfl))
  f220 := Tryd.func40.trans (congrArg some (by kernel_rfl))
  f224 := Tryd.func70.trans (congrArg some (by kernel_rfl))
  f225 := Tryd.func69.trans (congrArg some (by kernel_rfl))
  f266 := Tryd.func85.trans (congrArg some (by kernel_rfl))
  f267 := Tryd.func71.trans (congrArg some (by kernel_rfl))
  f314 := Tryd.func86.trans (congrArg some (by kernel_rfl))
  t3 := Tryd.underlying3
  a3 := Tryd.isAgg3
  z3 := Tryd.sizeOf3
  v3 := Tryd.zeroValue3
  t4 := Tryd.underlying4
  a4 := Tryd.isAgg4
  z4 := Tryd.sizeOf4
  v4 := Tryd.zeroValue4
  t5 := Tryd.underlying5
  a5 := Tryd.isAgg5
  z5 := Tryd.sizeOf5
  v5 := Tryd.zeroValue5
  t9 := Tryd.underlying9
  a9 := Tryd.isAgg9
  z9 := Tryd.sizeOf9
  v9 := Tryd.zeroValue9
  t46 := Tryd.underlying99
  a46 := Tryd.isAgg99
  z46 := Tryd.sizeOf99
  v46 := Tryd.zeroValue99
  t51 := Tryd.underlying88
  a51 := Tryd.isAgg88
  z51 := Tryd.sizeOf88
  v51 := Tryd.zeroValue88
  t146 := Tryd.underlying125
  a146 := Tryd.isAgg125
  z146 := Tryd.sizeOf125
  v146 := Tryd.zeroValue125
  g1 := by kernel_rfl
  i3 := by kernel_rfl
  i4 := by kernel_rfl
  i5 := by kernel_rfl
  i9 := by kernel_rfl
  i46 := by kernel_rfl
  i51 := by kernel_rfl
  i146 := by kernel_rfl
  m1 := by kernel_rfl
  s1_3 := fun w h => Go.Proofs.cell_of_shapedOpen_int (zero := #[.int .i64 0]) (t := 3) h (of_decide_eq_true (by kernel_rfl)) (by kernel_rfl) rfl (by kernel_rfl) (by kernel_rfl) Tryd.underlying3 }
open Go.RowKit Go.Lib in
theorem Tryd.stringslite_Cut_shaped (s sep : ByteArray) (w : World) (h : w.ShapedOpen Tryd.prog) (hs : s.size < 4294967281) :
    Calls Tryd.prog 40 #[.string s, .string sep] w fun e w' => e = .returned (.tuple #[.string ⟨(Lib.cut s.data.toList sep.data.toList).1.toArray⟩, .string ⟨(Lib.cut s.data.toList sep.data.toList).2.1.toArray⟩, .bool (Lib.cut s.data.toList sep.data.toList).2.2]) ∧ ∃ n, w' = w.drewN n := Any.stringslite_Cut_shaped Tryd.laysM220 s sep w h hs
def Tryd.laysM145_ren : Go.Shelf.Ren := ⟨fun | 145 => 24 | 220 => 40 | 219 => 51 | 217 => 68 | 225 => 69 | 224 => 70 | 267 => 71 | 266 => 85 | 314 => 86 | n => n, fun | 9 => 9 | 4 => 4 | 59 => 42 | 3 => 3 | 5 => 5 | 46 => 99 | 146 => 125 | 51 => 88 | n => n, fun | 1 => 2 | n => n⟩
theorem Tryd.laysM145 : Go.Proofs.LaysM.n145 Tryd.prog Tryd.laysM145_ren := {
  mixed := by kernel_rfl
  f145 := Tryd.func24.trans (congrArg some (by kernel_rfl))
  f217 := Tryd.func68.trans (congrArg some (by kernel_rfl))
  f219 := Tryd.func51.trans (congrArg some (by kernel_rfl))
  f220 := Tryd.func40.trans (congrArg some (by kernel_rfl))
  f224 := Tryd.func70.trans (congrArg some (by kernel_rfl))
  f225 := Tryd.func69.trans (congrArg some (by kernel_rfl))
  f266 := Tryd.func85.trans (congrArg some (by kernel_rfl))
  f267 := Tryd.func71.trans (congrArg some (by kernel_rfl))
  f314 := Tryd.func86.trans (congrArg some (by kernel_rfl))
  t3 := Tryd.underlying3
  a3 := Tryd.isAgg3
  z3 := Tryd.sizeOf3
  v3 := Tryd.zeroValue3
  t4 := Tryd.underlying4
  a4 := Tryd.isAgg4
  z4 := Tryd.sizeOf4
  v4 := Tryd.zeroValue4
  t5 := Tryd.underlying5
  a5 := Tryd.isAgg5
  z5 := Tryd.sizeOf5
  v5 := Tryd.zeroValue5
  t9 := Tryd.underlying9
  a9 := Tryd.isAgg9
  z9 := Tryd.sizeOf9
  v9 := Tryd.zeroValue9
  t46 := Tryd.underlying99
  a46 := Tryd.isAgg99
  z46 := Tryd.sizeOf99
  v46 := Tryd.zeroValue99
  t51 := Tryd.underlying88
  a51 := Tryd.isAgg88
  z51 := Tryd.sizeOf88
  v51 := Tryd.zeroValue88
  t59 := Tryd.underlying42
  a59 := Tryd.isAgg42
  z59 := Tryd.sizeOf42
  v59 := Tryd.zeroValue42
  t146 := Tryd.underlying125
  a146 := Tryd.isAgg125
  z146 := Tryd.sizeOf125
  v146 := Tryd.zeroValue125
  g1 := by kernel_rfl
  i3 := by kernel_rfl
  i4 := by kernel_rfl
  i5 := by kernel_rfl
  i9 := by kernel_rfl
  i46 := by kernel_rfl
  i51 := by kernel_rfl
  i59 := by kernel_rfl
  i146 := by kernel_rfl
  m1 := by kernel_rfl
  s1_3 := fun w h => Go.Proofs.cell_of_shapedOpen_int (zero := #[.int .i64 0]) (t := 3) h (of_decide_eq_true (by kernel_rfl)) (by kernel_rfl) rfl (by kernel_rfl) (by kernel_rfl) Tryd.underlying3 }
open Go.RowKit Go.Lib in
theorem Tryd.strings_Cut_shaped (s sep : ByteArray) (w : World) (h : w.ShapedOpen Tryd.prog) (hs : s.size < 4294967281) :
    Calls Tryd.prog 24 #[.string s, .string sep] w fun e w' => e = .returned (.tuple #[.string ⟨(Lib.cut s.data.toList sep.data.toList).1.toArray⟩, .string ⟨(Lib.cut s.data.toList sep.data.toList).2.1.toArray⟩, .bool (Lib.cut s.data.toList sep.data.toList).2.2]) ∧ ∃ n, w' = w.drewN n := Any.strings_Cut_shaped Tryd.laysM145 s sep w h hs
def Tryd.laysM138_ren : Go.Shelf.Ren := ⟨fun | 138 => 54 | 195 => 72 | 218 => 74 | 143 => 55 | 219 => 51 | 217 => 68 | 225 => 69 | 224 => 70 | 267 => 71 | 266 => 85 | 314 => 86 | n => n, fun | 9 => 9 | 3 => 3 | 4 => 4 | 5 => 5 | 0 => 0 | 46 => 99 | 146 => 125 | 51 => 88 | n => n, fun | 1 => 2 | n => n⟩
theorem Tryd.laysM138 : Go.Proofs.LaysM.n138 Tryd.prog Tryd.laysM138_ren := {
  mixed := by kernel_rfl
  f138 := Tryd.func54.trans (congrArg some (by kernel_rfl))
  f143 := Tryd.func55.trans (congrArg some (by kernel_rfl))
  f195 := Tryd.func72.trans (congrArg some (by kernel_rfl))
  f217 := Tryd.func68.trans (congrArg some (by kernel_rfl))
  f218 := Tryd.func74.trans (congrArg some (by kernel_rfl))
  f219 := Tryd.func51.trans (congrArg some (by kernel_rfl))
  f224 := Tryd.func70.trans (congrArg some (by kernel_rfl))
  f225 := Tryd.func69.trans (congrArg some (by kernel_rfl))
  f266 := Tryd.func85.trans (congrArg some (by kernel_rfl))
  f267 := Tryd.func71.trans (congrArg some (by kernel_rfl))
  f314 := Tryd.func86.trans (congrArg some (by kernel_rfl))
  t0 := Tryd.underlying0
  a0 := Tryd.isAgg0
  z0 := Tryd.sizeOf0
  v0 := Tryd.zeroValue0
  t3 := Tryd.underlying3
  a3 := Tryd.isAgg3
  z3 := Tryd.sizeOf3
  v3 := Tryd.zeroValue3
  t4 := Tryd.underlying4
  a4 := Tryd.isAgg4
  z4 := Tryd.sizeOf4
  v4 := Tryd.zeroValue4
  t5 := Tryd.underlying5
  a5 := Tryd.isAgg5
  z5 := Tryd.sizeOf5
  v5 := Tryd.zeroValue5
  t9 := Tryd.underlying9
  a9 := Tryd.isAgg9
  z9 := Tryd.sizeOf9
  v9 := Tryd.zeroValue9
  t46 := Tryd.underlying99
  a46 := Tryd.isAgg99
  z46 := Tryd.sizeOf99
  v46 := Tryd.zeroValue99
  t51 := Tryd.underlying88
  a51 := Tryd.isAgg88
  z51 := Tryd.sizeOf88
  v51 := Tryd.zeroValue88
  t146 := Tryd.underlying125
  a146 := Tryd.isAgg125
  z146 := Tryd.sizeOf125
  v146 := Tryd.zeroValue125
  g1 := by kernel_rfl
  i0 := by kernel_rfl
  i3 := by kernel_rfl
  i4 := by kernel_rfl
  i5 := by kernel_rfl
  i9 := by kernel_rfl
  i46 := by kernel_rfl
  i51 := by kernel_rfl
  i146 := by kernel_rfl
  m1 := by kernel_rfl
  s1_3 := fun w h => Go.Proofs.cell_of_shapedOpen_int (zero := #[.int .i64 0]) (t := 3) h (of_decide_eq_true (by kernel_rfl)) (by kernel_rfl) rfl (by kernel_rfl) (by kernel_rfl) Tryd.underlying3 }
open Go.RowKit Go.Lib in
theorem Tryd.strings_Count_shaped (s sub : ByteArray) (w : World) (h : w.ShapedOpen Tryd.prog) (hs : s.size < 4294967281) (h2 : 2 ≤ sub.size) :
    Calls Tryd.prog 54 #[.string s, .string sub] w fun e w' => e = .returned (.int .i64 (Lib.countB s sub)) ∧ w' = w := Any.strings_Count_shaped Tryd.laysM138 s sub w h hs h2
def Tryd.lays206_ren : Go.Shelf.Ren := ⟨fun | 206 => 52 | n => n, fun | 9 => 9 | 4 => 4 | 3 => 3 | n => n, fun | n => n⟩
theorem Tryd.lays206 : Go.Proofs.Lays.n206 Tryd.prog Tryd.lays206_ren := {
  mixed := by kernel_rfl
  f206 := Tryd.func52.trans (congrArg some (by kernel_rfl))
  t3 := Tryd.underlying3
  a3 := Tryd.isAgg3
  z3 := Tryd.sizeOf3
  v3 := Tryd.zeroValue3
  t4 := Tryd.underlying4
  a4 := Tryd.isAgg4
  z4 := Tryd.sizeOf4
  v4 := Tryd.zeroValue4
  t9 := Tryd.underlying9
  a9 := Tryd.isAgg9
  z9 := Tryd.sizeOf9
  v9 := Tryd.zeroValue9 }
open Go.RowKit Go.Lib in
/-- internal/stringslite.HasPrefix (what strings.HasPrefix calls). (LAID: no walk: one application.) -/
theorem Tryd.stringslite_HasPrefix (s p : ByteArray) (w : World) :
    Calls Tryd.prog 52 #[.string s, .string p] w fun e w' => e = .returned (.bool (Lib.hasPrefix s.data.toList p.data.toList)) ∧ w' = w := Any.stringslite_HasPrefix Tryd.lays206 s p w
def Tryd.lays208_ren : Go.Shelf.Ren := ⟨fun | 208 => 41 | 206 => 52 | n => n, fun | 9 => 9 | 4 => 4 | 3 => 3 | n => n, fun | n => n⟩
theorem Tryd.lays208 : Go.Proofs.Lays.n208 Tryd.prog Tryd.lays208_ren := {
  mixed := by kernel_rfl
  f206 := Tryd.func52.trans (congrArg some (by kernel_rfl))
  f208 := Tryd.func41.trans (congrArg some (by kernel_rfl))
  t3 := Tryd.underlying3
  a3 := Tryd.isAgg3
  z3 := Tryd.sizeOf3
  v3 := Tryd.zeroValue3
  t4 := Tryd.underlying4
  a4 := Tryd.isAgg4
  z4 := Tryd.sizeOf4
  v4 := Tryd.zeroValue4
  t9 := Tryd.underlying9
  a9 := Tryd.isAgg9
  z9 := Tryd.sizeOf9
  v9 := Tryd.zeroValue9 }
open Go.RowKit Go.Lib in
/-- internal/stringslite.TrimPrefix (what strings.TrimPrefix calls). (LAID: no walk: one application.) -/
theorem Tryd.stringslite_TrimPrefix (s p : ByteArray) (w : World) :
    Calls Tryd.prog 41 #[.string s, .string p] w fun e w' => e = .returned (.string ⟨(Lib.trimPrefix s.data.toList p.data.toList).toArray⟩) ∧ w' = w := Any.stringslite_TrimPrefix Tryd.lays208 s p w
def Tryd.lays101_ren : Go.Shelf.Ren := ⟨fun | 101 => 26 | 208 => 41 | 206 => 52 | n => n, fun | 9 => 9 | 4 => 4 | 3 => 3 | n => n, fun | n => n⟩
theorem Tryd.lays101 : Go.Proofs.Lays.n101 Tryd.prog Tryd.lays101_ren := {
  mixed := by kernel_rfl
  f101 := Tryd.func26.trans (congrArg some (by kernel_rfl))
  f206 := Tryd.func52.trans (congrArg some (by kernel_rfl))
  f208 := Tryd.func41.trans (congrArg some (by kernel_rfl))
  t3 := Tryd.underlying3
  a3 := Tryd.isAgg3
  z3 := Tryd.sizeOf3
  v3 := Tryd.zeroValue3
  t4 := Tryd.underlying4
  a4 := Tryd.isAgg4
  z4 := Tryd.sizeOf4
  v4 := Tryd.zeroValue4
  t9 := Tryd.underlying9
  a9 := Tryd.isAgg9
  z9 := Tryd.sizeOf9
  v9 := Tryd.zeroValue9 }
open Go.RowKit Go.Lib in
/-- strings.TrimPrefix: "TrimPrefix returns s without the provided leading prefix string. If s doesn't start with prefix, s is returned unchanged.": IT RETURNS 'Lib.trimPrefix s prefix'; the world is as it was. (LAID: no walk: one application.) -/
theorem Tryd.strings_TrimPrefix (s p : ByteArray) (w : World) :
    Calls Tryd.prog 26 #[.string s, .string p] w fun e w' => e = .returned (.string ⟨(Lib.trimPrefix s.data.toList p.data.toList).toArray⟩) ∧ w' = w := Any.strings_TrimPrefix Tryd.lays101 s p w
open Go.RowKit Go.Lib in
/-- strings.Count at whatever sep that is not empty: the two roads under one statement. (LAID: no walk: one application.) -/
theorem Tryd.strings_Count_any (s sep : ByteArray) (m : Int) (w : World) (hs : s.size < 4294967281) (hm : w.cell? ⟨2, 0, none⟩ = some (.int .i64 m)) (h1 : 1 ≤ sep.size) :
    Calls Tryd.prog 54 #[.string s, .string sep] w fun e w' => e = .returned (.int .i64 (Lib.countB s sep)) ∧ w' = w := Any.strings_Count_any Tryd.lays138 s sep m w hs hm h1
def Tryd.lays221_ren : Go.Shelf.Ren := ⟨fun | 221 => 42 | 268 => 53 | 138 => 54 | 143 => 55 | 195 => 72 | 197 => 73 | 218 => 74 | 219 => 51 | 260 => 87 | 217 => 68 | 225 => 69 | 224 => 70 | 267 => 71 | 266 => 85 | 314 => 86 | n => n, fun | 9 => 9 | 3 => 3 | 31 => 36 | 4 => 4 | 0 => 0 | 105 => 101 | 21 => 21 | 5 => 5 | 46 => 99 | 119 => 70 | 139 => 136 | 138 => 135 | 146 => 125 | 51 => 88 | n => n, fun | 1 => 2 | 3 => 6 | 4 => 7 | n => n⟩
theorem Tryd.lays221 : Go.Proofs.Lays.n221 Tryd.prog Tryd.lays221_ren := {
  mixed := by kernel_rfl
  f138 := Tryd.func54.trans (congrArg some (by kernel_rfl))
  f143 := Tryd.func55.trans (congrArg some (by kernel_rfl))
  f195 := Tryd.func72.trans (congrArg some (by kernel_rfl))
  f197 := Tryd.func73.trans (congrArg some (by kernel_rfl))
  f217 := Tryd.func68.trans (congrArg some (by kernel_rfl))
  f218 := Tryd.func74.trans (congrArg some (by kernel_rfl))
  f219 := Tryd.func51.trans (congrArg some (by kernel_rfl))
  f221 := Tryd.func42.trans (congrArg some (by kernel_rfl))
  f224 := Tryd.func70.trans (congrArg some (by kernel_rfl))
  f225 := Tryd.func69.trans (congrArg some (by kernel_rfl))
  f260 := Tryd.func87.trans (congrArg some (by kernel_rfl))
  f266 := Tryd.func85.trans (congrArg some (by kernel_rfl))
  f267 := Tryd.func71.trans (congrArg some (by kernel_rfl))
  f268 := Tryd.func53.trans (congrArg some (by kernel_rfl))
  f314 := Tryd.func86.trans (congrArg some (by kernel_rfl))
  t0 := Tryd.underlying0
  a0 := Tryd.isAgg0
  z0 := Tryd.sizeOf0
  v0 := Tryd.zeroValue0
  t3 := Tryd.underlying3
  a3 := Tryd.isAgg3
  z3 := Tryd.sizeOf3
  v3 := Tryd.zeroValue3
  t4 := Tryd.underlying4
  a4 := Tryd.isAgg4
  z4 := Tryd.sizeOf4
  v4 := Tryd.zeroValue4
  t5 := Tryd.underlying5
  a5 := Tryd.isAgg5
  z5 := Tryd.sizeOf5
  v5 := Tryd.zeroValue5
  t9 := Tryd.underlying9
  a9 := Tryd.isAgg9
  z9 := Tryd.sizeOf9
  v9 := Tryd.zeroValue9
  t21 := Tryd.underlying21
  a21 := Tryd.isAgg21
  z21 := Tryd.sizeOf21
  v21 := Tryd.zeroValue21
  t31 := Tryd.underlying36
  a31 := Tryd.isAgg36
  z31 := Tryd.sizeOf36
  v31 := Tryd.zeroValue36
  t46 := Tryd.underlying99
  a46 := Tryd.isAgg99
  z46 := Tryd.sizeOf99
  v46 := Tryd.zeroValue99
  t51 := Tryd.underlying88
  a51 := Tryd.isAgg88
  z51 := Tryd.sizeOf88
  v51 := Tryd.zeroValue88
  t105 := Tryd.underlying101
  a105 := Tryd.isAgg101
  z105 := Tryd.sizeOf101
  v105 := Tryd.zeroValue101
  t119 := Tryd.underlying70
  a119 := Tryd.isAgg70
  z119 := Tryd.sizeOf70
  t138 := Tryd.underlying135
  a138 := Tryd.isAgg135
  z138 := Tryd.sizeOf135
  v138 := Tryd.zeroValue135
  t139 := Tryd.underlying136
  a139 := Tryd.isAgg136
  z139 := Tryd.sizeOf136
  v139 := Tryd.zeroValue136
  t146 := Tryd.underlying125
  a146 := Tryd.isAgg125
  z146 := Tryd.sizeOf125
  v146 := Tryd.zeroValue125
  g1 := by kernel_rfl
  g3 := by kernel_rfl
  g4 := by kernel_rfl }
open Go.RowKit Go.Lib in
theorem Tryd.strings_genSplit (s sep : ByteArray) (sv : Nat) (n : Int) (N : Nat) (m : Int) (w : World) (hs : s.size < 4294967281) (hm : w.cell? ⟨2, 0, none⟩ = some (.int .i64 m)) (h1 : 1 ≤ sep.size) (hsv : sv ≤ sep.size) (hn0 : n ≠ 0) (hn63 : n ≤ 9223372036854775807) (hN : (N : Int) = min (if n < 0 then (Lib.countB s sep : Int) + 1 else n) ((s.size : Int) + 1)) :
    Calls Tryd.prog 42 #[.string s, .string sep, .int .i64 sv, .int .i64 n] w fun e w' =>
      e = .returned (.slice (some ⟨w.heap.size, 0, none⟩) (Lib.splitB sep sv (N - 1) s).length N) ∧ w' = w.alloc (.cells (Lib.cellsOf (Lib.splitB sep sv (N - 1) s) N) 9) := Any.strings_genSplit Tryd.lays221 (by kernel_rfl) s sep sv n N m w hs hm h1 hsv hn0 hn63 hN
def Tryd.lays146_ren : Go.Shelf.Ren := ⟨fun | 146 => 27 | 221 => 42 | 268 => 53 | 138 => 54 | 143 => 55 | 195 => 72 | 197 => 73 | 218 => 74 | 219 => 51 | 260 => 87 | 217 => 68 | 225 => 69 | 224 => 70 | 267 => 71 | 266 => 85 | 314 => 86 | n => n, fun | 9 => 9 | 31 => 36 | 3 => 3 | 4 => 4 | 0 => 0 | 105 => 101 | 21 => 21 | 5 => 5 | 46 => 99 | 119 => 70 | 139 => 136 | 138 => 135 | 146 => 125 | 51 => 88 | n => n, fun | 1 => 2 | 3 => 6 | 4 => 7 | n => n⟩
theorem Tryd.lays146 : Go.Proofs.Lays.n146 Tryd.prog Tryd.lays146_ren := {
  mixed := by kernel_rfl
  f138 := Tryd.func54.trans (congrArg some (by kernel_rfl))
  f143 := Tryd.func55.trans (congrArg some (by kernel_rfl))
  f146 := Tryd.func27.trans (congrArg some (by kernel_rfl))
  f195 := Tryd.func72.trans (congrArg some (by kernel_rfl))
  f197 := Tryd.func73.trans (congrArg some (by kernel_rfl))
  f217 := Tryd.func68.trans (congrArg some (by kernel_rfl))
  f218 := Tryd.func74.trans (congrArg some (by kernel_rfl))
  f219 := Tryd.func51.trans (congrArg some (by kernel_rfl))
  f221 := Tryd.func42.trans (congrArg some (by kernel_rfl))
  f224 := Tryd.func70.trans (congrArg some (by kernel_rfl))
  f225 := Tryd.func69.trans (congrArg some (by kernel_rfl))
  f260 := Tryd.func87.trans (congrArg some (by kernel_rfl))
  f266 := Tryd.func85.trans (congrArg some (by kernel_rfl))
  f267 := Tryd.func71.trans (congrArg some (by kernel_rfl))
  f268 := Tryd.func53.trans (congrArg some (by kernel_rfl))
  f314 := Tryd.func86.trans (congrArg some (by kernel_rfl))
  t0 := Tryd.underlying0
  a0 := Tryd.isAgg0
  z0 := Tryd.sizeOf0
  v0 := Tryd.zeroValue0
  t3 := Tryd.underlying3
  a3 := Tryd.isAgg3
  z3 := Tryd.sizeOf3
  v3 := Tryd.zeroValue3
  t4 := Tryd.underlying4
  a4 := Tryd.isAgg4
  z4 := Tryd.sizeOf4
  v4 := Tryd.zeroValue4
  t5 := Tryd.underlying5
  a5 := Tryd.isAgg5
  z5 := Tryd.sizeOf5
  v5 := Tryd.zeroValue5
  t9 := Tryd.underlying9
  a9 := Tryd.isAgg9
  z9 := Tryd.sizeOf9
  v9 := Tryd.zeroValue9
  t21 := Tryd.underlying21
  a21 := Tryd.isAgg21
  z21 := Tryd.sizeOf21
  v21 := Tryd.zeroValue21
  t31 := Tryd.underlying36
  a31 := Tryd.isAgg36
  z31 := Tryd.sizeOf36
  v31 := Tryd.zeroValue36
  t46 := Tryd.underlying99
  a46 := Tryd.isAgg99
  z46 := Tryd.sizeOf99
  v46 := Tryd.zeroValue99
  t51 := Tryd.underlying88
  a51 := Tryd.isAgg88
  z51 := Tryd.sizeOf88
  v51 := Tryd.zeroValue88
  t105 := Tryd.underlying101
  a105 := Tryd.isAgg101
  z105 := Tryd.sizeOf101
  v105 := Tryd.zeroValue101
  t119 := Tryd.underlying70
  a119 := Tryd.isAgg70
  z119 := Tryd.sizeOf70
  t138 := Tryd.underlying135
  a138 := Tryd.isAgg135
  z138 := Tryd.sizeOf135
  v138 := Tryd.zeroValue135
  t139 := Tryd.underlying136
  a139 := Tryd.isAgg136
  z139 := Tryd.sizeOf136
  v139 := Tryd.zeroValue136
  t146 := Tryd.underlying125
  a146 := Tryd.isAgg125
  z146 := Tryd.sizeOf125
  v146 := Tryd.zeroValue125
  g1 := by kernel_rfl
  g3 := by kernel_rfl
  g4 := by kernel_rfl }
open Go.RowKit Go.Lib in
/-- strings.Split. (LAID: no walk: one application.) -/
theorem Tryd.strings_Split (s sep : ByteArray) (m : Int) (w : World) (hs : s.size < 4294967281) (hm : w.cell? ⟨2, 0, none⟩ = some (.int .i64 m)) (h1 : 1 ≤ sep.size) :
    Calls Tryd.prog 27 #[.string s, .string sep] w fun e w' =>
      e = .returned (.slice (some ⟨w.heap.size, 0, none⟩) (Lib.countB s sep + 1) (Lib.countB s sep + 1)) ∧ w' = w.alloc (.cells ((Lib.splitB sep 0 (Lib.countB s sep) s).map Value.string).toArray 9) := Any.strings_Split Tryd.lays146 (by kernel_rfl) s sep m w hs hm h1
def Tryd.lays157_ren : Go.Shelf.Ren := ⟨fun | 157 => 37 | 229 => 47 | 199 => 48 | 261 => 62 | 311 => 78 | 312 => 79 | n => n, fun | 9 => 9 | 31 => 36 | 3 => 3 | 5 => 5 | 4 => 4 | 119 => 70 | 0 => 0 | 40 => 72 | 152 => 85 | 21 => 21 | 154 => 87 | 51 => 88 | 141 => 90 | 196 => 112 | 193 => 109 | 198 => 115 | 49 => 113 | 194 => 110 | 201 => 118 | 226 => 131 | 46 => 99 | 227 => 132 | n => n, fun | 0 => 0 | 6 => 1 | n => n⟩
theorem Tryd.lays157 : Go.Proofs.Lays.n157 Tryd.prog Tryd.lays157_ren := {
  mixed := by kernel_rfl
  f157 := Tryd.func37.trans (congrArg some (by kernel_rfl))
  f199 := Tryd.func48.trans (congrArg some (by kernel_rfl))
  f229 := Tryd.func47.trans (congrArg some (by kernel_rfl))
  f261 := Tryd.func62.trans (congrArg some (by kernel_rfl))
  f311 := Tryd.func78.trans (congrArg some (by kernel_rfl))
  f312 := Tryd.func79.trans (congrArg some (by kernel_rfl))
  t0 := Tryd.underlying0
  a0 := Tryd.isAgg0
  z0 := Tryd.sizeOf0
  v0 := Tryd.zeroValue0
  t3 := Tryd.underlying3
  a3 := Tryd.isAgg3
  z3 := Tryd.sizeOf3
  v3 := Tryd.zeroValue3
  t4 := Tryd.underlying4
  a4 := Tryd.isAgg4
  z4 := Tryd.sizeOf4
  v4 := Tryd.zeroValue4
  t5 := Tryd.underlying5
  a5 := Tryd.isAgg5
  z5 := Tryd.sizeOf5
  v5 := Tryd.zeroValue5
  t9 := Tryd.underlying9
  a9 := Tryd.isAgg9
  z9 := Tryd.sizeOf9
  v9 := Tryd.zeroValue9
  t21 := Tryd.underlying21
  a21 := Tryd.isAgg21
  z21 := Tryd.sizeOf21
  v21 := Tryd.zeroValue21
  t31 := Tryd.underlying36
  a31 := Tryd.isAgg36
  z31 := Tryd.sizeOf36
  v31 := Tryd.zeroValue36
  t40 := Tryd.underlying72
  a40 := Tryd.isAgg72
  z40 := Tryd.sizeOf72
  v40 := Tryd.zeroValue72
  t46 := Tryd.underlying99
  a46 := Tryd.isAgg99
  z46 := Tryd.sizeOf99
  v46 := Tryd.zeroValue99
  t49 := Tryd.underlying113
  a49 := Tryd.isAgg113
  z49 := Tryd.sizeOf113
  v49 := Tryd.zeroValue113
  t51 := Tryd.underlying88
  a51 := Tryd.isAgg88
  z51 := Tryd.sizeOf88
  v51 := Tryd.zeroValue88
  t119 := Tryd.underlying70
  a119 := Tryd.isAgg70
  z119 := Tryd.sizeOf70
  t141 := Tryd.underlying90
  a141 := Tryd.isAgg90
  z141 := Tryd.sizeOf90
  v141 := Tryd.zeroValue90
  t152 := Tryd.underlying85
  a152 := Tryd.isAgg85
  z152 := Tryd.sizeOf85
  v152 := Tryd.zeroValue85
  t154 := Tryd.underlying87
  a154 := Tryd.isAgg87
  z154 := Tryd.sizeOf87
  v154 := Tryd.zeroValue87
  t193 := Tryd.underlying109
  a193 := Tryd.isAgg109
  z193 := Tryd.sizeOf109
  v193 := Tryd.zeroValue109
  t194 := Tryd.underlying110
  a194 := Tryd.isAgg110
  z194 := Tryd.sizeOf110
  v194 := Tryd.zeroValue110
  t196 := Tryd.underlying112
  a196 := Tryd.isAgg112
  z196 := Tryd.sizeOf112
  v196 := Tryd.zeroValue112
  t198 := Tryd.underlying115
  a198 := Tryd.isAgg115
  z198 := Tryd.sizeOf115
  v198 := Tryd.zeroValue115
  t201 := Tryd.underlying118
  a201 := Tryd.isAgg118
  z201 := Tryd.sizeOf118
  v201 := Tryd.zeroValue118
  t226 := Tryd.underlying131
  a226 := Tryd.isAgg131
  z226 := Tryd.sizeOf131
  v226 := Tryd.zeroValue131
  t227 := Tryd.underlying132
  a227 := Tryd.isAgg132
  z227 := Tryd.sizeOf132
  v227 := Tryd.zeroValue132
  g0 := by kernel_rfl
  g6 := by kernel_rfl }
open Go.RowKit Go.Lib in
/-- strings.Fields, the table by 'Lib.TabIs' (as strings.TrimSpace's contract). 'hg': the table's number, by its name: at a dump 'by kernel_rfl'. (LAID: no walk: one application.) -/
theorem Tryd.strings_Fields (s : ByteArray) (w : World) (hs : s.size < 4294967281) (hascii : ∀ (j : Nat) b, s.data.toList[j]? = some b → b.toNat < 128) (htab : Lib.TabIs Tryd.prog w "strings.asciiSpace" .u8 Lib.asciiSpaceTab) :
    Calls Tryd.prog 37 #[.string s] w fun e w' =>
      e = .returned (.slice (some ⟨w.heap.size, 0, none⟩) (Lib.fields s.data.toList).length (Lib.fields s.data.toList).length) ∧ w' = w.alloc (.cells ((Lib.fields s.data.toList).map fun l => Value.string ⟨l.toArray⟩).toArray 9) := Any.strings_Fields Tryd.lays157 (by kernel_rfl) (by kernel_rfl) s w hs hascii htab
def Tryd.lays199_ren : Go.Shelf.Ren := ⟨fun | 199 => 48 | 261 => 62 | 311 => 78 | 312 => 79 | n => n, fun | 21 => 21 | 4 => 4 | 51 => 88 | 141 => 90 | 0 => 0 | 196 => 112 | 193 => 109 | 3 => 3 | 198 => 115 | 49 => 113 | 194 => 110 | 201 => 118 | 226 => 131 | 46 => 99 | 227 => 132 | n => n, fun | 6 => 1 | n => n⟩
theorem Tryd.lays199 : Go.Proofs.Lays.n199 Tryd.prog Tryd.lays199_ren := {
  mixed := by kernel_rfl
  f199 := Tryd.func48.trans (congrArg some (by kernel_rfl))
  f261 := Tryd.func62.trans (congrArg some (by kernel_rfl))
  f311 := Tryd.func78.trans (congrArg some (by kernel_rfl))
  f312 := Tryd.func79.trans (congrArg some (by kernel_rfl))
  t0 := Tryd.underlying0
  a0 := Tryd.isAgg0
  z0 := Tryd.sizeOf0
  v0 := Tryd.zeroValue0
  t3 := Tryd.underlying3
  a3 := Tryd.isAgg3
  z3 := Tryd.sizeOf3
  v3 := Tryd.zeroValue3
  t4 := Tryd.underlying4
  a4 := Tryd.isAgg4
  z4 := Tryd.sizeOf4
  v4 := Tryd.zeroValue4
  t21 := Tryd.underlying21
  a21 := Tryd.isAgg21
  z21 := Tryd.sizeOf21
  v21 := Tryd.zeroValue21
  t46 := Tryd.underlying99
  a46 := Tryd.isAgg99
  z46 := Tryd.sizeOf99
  v46 := Tryd.zeroValue99
  t49 := Tryd.underlying113
  a49 := Tryd.isAgg113
  z49 := Tryd.sizeOf113
  v49 := Tryd.zeroValue113
  t51 := Tryd.underlying88
  a51 := Tryd.isAgg88
  z51 := Tryd.sizeOf88
  v51 := Tryd.zeroValue88
  t141 := Tryd.underlying90
  a141 := Tryd.isAgg90
  z141 := Tryd.sizeOf90
  v141 := Tryd.zeroValue90
  t193 := Tryd.underlying109
  a193 := Tryd.isAgg109
  z193 := Tryd.sizeOf109
  v193 := Tryd.zeroValue109
  t194 := Tryd.underlying110
  a194 := Tryd.isAgg110
  z194 := Tryd.sizeOf110
  v194 := Tryd.zeroValue110
  t196 := Tryd.underlying112
  a196 := Tryd.isAgg112
  z196 := Tryd.sizeOf112
  v196 := Tryd.zeroValue112
  t198 := Tryd.underlying115
  a198 := Tryd.isAgg115
  z198 := Tryd.sizeOf115
  v198 := Tryd.zeroValue115
  t201 := Tryd.underlying118
  a201 := Tryd.isAgg118
  z201 := Tryd.sizeOf118
  v201 := Tryd.zeroValue118
  t226 := Tryd.underlying131
  a226 := Tryd.isAgg131
  z226 := Tryd.sizeOf131
  v226 := Tryd.zeroValue131
  t227 := Tryd.underlying132
  a227 := Tryd.isAgg132
  z227 := Tryd.sizeOf132
  v227 := Tryd.zeroValue132
  g6 := by kernel_rfl }
open Go.RowKit Go.Lib in
theorem Tryd.unicode_IsSpace (r : Int) (w : World) (h0 : 0 ≤ r) (h : r ≤ 255) :
    Calls Tryd.prog 48 #[.int .i32 r] w fun e w' => e = .returned (.bool (Lib.isSpaceL r)) ∧ w' = w := Any.unicode_IsSpace Tryd.lays199 r w h0 h
def Tryd.lays260_ren : Go.Shelf.Ren := ⟨fun | 260 => 87 | n => n, fun | 9 => 9 | 21 => 21 | 3 => 3 | 4 => 4 | 5 => 5 | 119 => 70 | 0 => 0 | 46 => 99 | 139 => 136 | 138 => 135 | n => n, fun | 3 => 6 | 4 => 7 | n => n⟩
theorem Tryd.lays260 : Go.Proofs.Lays.n260 Tryd.prog Tryd.lays260_ren := {
  mixed := by kernel_rfl
  f260 := Tryd.func87.trans (congrArg some (by kernel_rfl))
  t0 := Tryd.underlying0
  a0 := Tryd.isAgg0
  z0 := Tryd.sizeOf0
  v0 := Tryd.zeroValue0
  t3 := Tryd.underlying3
  a3 := Tryd.isAgg3
  z3 := Tryd.sizeOf3
  v3 := Tryd.zeroValue3
  t4 := Tryd.underlying4
  a4 := Tryd.isAgg4
  z4 := Tryd.sizeOf4
  v4 := Tryd.zeroValue4
  t5 := Tryd.underlying5
  a5 := Tryd.isAgg5
  z5 := Tryd.sizeOf5
  v5 := Tryd.zeroValue5
  t9 := Tryd.underlying9
  a9 := Tryd.isAgg9
  z9 := Tryd.sizeOf9
  v9 := Tryd.zeroValue9
  t21 := Tryd.underlying21
  a21 := Tryd.isAgg21
  z21 := Tryd.sizeOf21
  v21 := Tryd.zeroValue21
  t46 := Tryd.underlying99
  a46 := Tryd.isAgg99
  z46 := Tryd.sizeOf99
  v46 := Tryd.zeroValue99
  t119 := Tryd.underlying70
  a119 := Tryd.isAgg70
  z119 := Tryd.sizeOf70
  t138 := Tryd.underlying135
  a138 := Tryd.isAgg135
  z138 := Tryd.sizeOf135
  v138 := Tryd.zeroValue135
  t139 := Tryd.underlying136
  a139 := Tryd.isAgg136
  z139 := Tryd.sizeOf136
  v139 := Tryd.zeroValue136
  g3 := by kernel_rfl
  g4 := by kernel_rfl }
open Go.RowKit Go.Lib in
theorem Tryd.utf8_decodeRuneInStringSlow (s : ByteArray) (w : World) (hT : Lib.Utf8Tabs 6 7 w) :
    Calls Tryd.prog 87 #[.string s] w fun e w' => e = .returned (.tuple #[.int .i32 (Lib.decodeGo s).1, .int .i64 (Lib.decodeGo s).2]) ∧ Below w.heap.size w w' := Any.utf8_decodeRuneInStringSlow Tryd.lays260 s w hT
def Tryd.lays311_ren : Go.Shelf.Ren := ⟨fun | 311 => 78 | n => n, fun | 193 => 109 | 49 => 113 | 4 => 4 | 3 => 3 | 0 => 0 | 226 => 131 | 198 => 115 | 46 => 99 | n => n, fun | n => n⟩
theorem Tryd.lays311 : Go.Proofs.Lays.n311 Tryd.prog Tryd.lays311_ren := {
  mixed := by kernel_rfl
  f311 := Tryd.func78.trans (congrArg some (by kernel_rfl))
  t0 := Tryd.underlying0
  a0 := Tryd.isAgg0
  z0 := Tryd.sizeOf0
  v0 := Tryd.zeroValue0
  t3 := Tryd.underlying3
  a3 := Tryd.isAgg3
  z3 := Tryd.sizeOf3
  v3 := Tryd.zeroValue3
  t4 := Tryd.underlying4
  a4 := Tryd.isAgg4
  z4 := Tryd.sizeOf4
  v4 := Tryd.zeroValue4
  t46 := Tryd.underlying99
  a46 := Tryd.isAgg99
  z46 := Tryd.sizeOf99
  v46 := Tryd.zeroValue99
  t49 := Tryd.underlying113
  a49 := Tryd.isAgg113
  z49 := Tryd.sizeOf113
  v49 := Tryd.zeroValue113
  t193 := Tryd.underlying109
  a193 := Tryd.isAgg109
  z193 := Tryd.sizeOf109
  v193 := Tryd.zeroValue109
  t198 := Tryd.underlying115
  a198 := Tryd.isAgg115
  z198 := Tryd.sizeOf115
  v198 := Tryd.zeroValue115
  t226 := Tryd.underlying131
  a226 := Tryd.isAgg131
  z226 := Tryd.sizeOf131
  v226 := Tryd.zeroValue131 }
open Go.RowKit Go.Lib in
theorem Tryd.unicode_is16_white (R oR : Nat) (z : Nat) (w : World) (hz : z < 65536) (hz0 : 255 < z) (c6 : w.cell? ⟨R, oR + 6, none⟩ = some (.int .u16 160)) (c7 : w.cell? ⟨R, oR + 7, none⟩ = some (.int .u16 5760)) (c8 : w.cell? ⟨R, oR + 8, none⟩ = some (.int .u16 5600)) (c9 : w.cell? ⟨R, oR + 9, none⟩ = some (.int .u16 8192)) (c10 : w.cell? ⟨R, oR + 10, none⟩ = some (.int .u16 8202)) (c11 : w.cell? ⟨R, oR + 11, none⟩ = some (.int .u16 1)) (c12 : w.cell? ⟨R, oR + 12, none⟩ = some (.int .u16 8232)) (c13 : w.cell? ⟨R, oR + 13, none⟩ = some (.int .u16 8233)) (c14 : w.cell? ⟨R, oR + 14, none⟩ = some (.int .u16 1)) (c15 : w.cell? ⟨R, oR + 15, none⟩ = some (.int .u16 8239)) (c16 : w.cell? ⟨R, oR + 16, none⟩ = some (.int .u16 8287)) (c17 : w.cell? ⟨R, oR + 17, none⟩ = some (.int .u16 48)) (c18 : w.cell? ⟨R, oR + 18, none⟩ = some (.int .u16 12288)) (c19 : w.cell? ⟨R, oR + 19, none⟩ = some (.int .u16 12288)) (c20 : w.cell? ⟨R, oR + 20, none⟩ = some (.int .u16 1)) :
    Calls Tryd.prog 78 #[.slice (some ⟨R, oR + 6, none⟩) 5 5, .int .u16 z] w fun e w' => e = .returned (.bool (Lib.isSpaceR z)) ∧ Below w.heap.size w w' := Any.unicode_is16_white Tryd.lays311 R oR z w hz hz0 c6 c7 c8 c9 c10 c11 c12 c13 c14 c15 c16 c17 c18 c19 c20
def Tryd.lays261_ren : Go.Shelf.Ren := ⟨fun | 261 => 62 | 311 => 78 | 312 => 79 | n => n, fun | 141 => 90 | 21 => 21 | 4 => 4 | 0 => 0 | 196 => 112 | 193 => 109 | 3 => 3 | 51 => 88 | 198 => 115 | 49 => 113 | 194 => 110 | 201 => 118 | 226 => 131 | 46 => 99 | 227 => 132 | n => n, fun | n => n⟩
theorem Tryd.lays261 : Go.Proofs.Lays.n261 Tryd.prog Tryd.lays261_ren := {
  mixed := by kernel_rfl
  f261 := Tryd.func62.trans (congrArg some (by kernel_rfl))
  f311 := Tryd.func78.trans (congrArg some (by kernel_rfl))
  f312 := Tryd.func79.trans (congrArg some (by kernel_rfl))
  t0 := Tryd.underlying0
  a0 := Tryd.isAgg0
  z0 := Tryd.sizeOf0
  v0 := Tryd.zeroValue0
  t3 := Tryd.underlying3
  a3 := Tryd.isAgg3
  z3 := Tryd.sizeOf3
  v3 := Tryd.zeroValue3
  t4 := Tryd.underlying4
  a4 := Tryd.isAgg4
  z4 := Tryd.sizeOf4
  v4 := Tryd.zeroValue4
  t21 := Tryd.underlying21
  a21 := Tryd.isAgg21
  z21 := Tryd.sizeOf21
  v21 := Tryd.zeroValue21
  t46 := Tryd.underlying99
  a46 := Tryd.isAgg99
  z46 := Tryd.sizeOf99
  v46 := Tryd.zeroValue99
  t49 := Tryd.underlying113
  a49 := Tryd.isAgg113
  z49 := Tryd.sizeOf113
  v49 := Tryd.zeroValue113
  t51 := Tryd.underlying88
  a51 := Tryd.isAgg88
  z51 := Tryd.sizeOf88
  v51 := Tryd.zeroValue88
  t141 := Tryd.underlying90
  a141 := Tryd.isAgg90
  z141 := Tryd.sizeOf90
  v141 := Tryd.zeroValue90
  t193 := Tryd.underlying109
  a193 := Tryd.isAgg109
  z193 := Tryd.sizeOf109
  v193 := Tryd.zeroValue109
  t194 := Tryd.underlying110
  a194 := Tryd.isAgg110
  z194 := Tryd.sizeOf110
  v194 := Tryd.zeroValue110
  t196 := Tryd.underlying112
  a196 := Tryd.isAgg112
  z196 := Tryd.sizeOf112
  v196 := Tryd.zeroValue112
  t198 := Tryd.underlying115
  a198 := Tryd.isAgg115
  z198 := Tryd.sizeOf115
  v198 := Tryd.zeroValue115
  t201 := Tryd.underlying118
  a201 := Tryd.isAgg118
  z201 := Tryd.sizeOf118
  v201 := Tryd.zeroValue118
  t226 := Tryd.underlying131
  a226 := Tryd.isAgg131
  z226 := Tryd.sizeOf131
  v226 := Tryd.zeroValue131
  t227 := Tryd.underlying132
  a227 := Tryd.isAgg132
  z227 := Tryd.sizeOf132
  v227 := Tryd.zeroValue132 }
open Go.RowKit Go.Lib in
/-- unicode.isExcludingLatin(White_Space, r), r beyond U+00FF or negative. (LAID: no walk: one application.) -/
theorem Tryd.unicode_isExcludingLatin_white (T oT R oR : Nat) (r : Int) (w : World) (hlo : -2147483648 ≤ r) (hhi : r ≤ 2147483647) (hr : r < 0 ∨ 255 < r) (h2 : w.cell? ⟨T, oT, none⟩ = some (.slice (some ⟨R, oR, none⟩) 7 7)) (h3 : w.cell? ⟨T, oT + 1, none⟩ = some (.slice none 0 0)) (h4 : w.cell? ⟨T, oT + 2, none⟩ = some (.int .i64 2)) (h5 : ∀ i, i < 21 → w.cell? ⟨R, oR + i, none⟩ = some (.int .u16 (whiteT.getD i 0))) :
    Calls Tryd.prog 62 #[.pointer (some ⟨T, oT, none⟩), .int .i32 r] w fun e w' => e = .returned (.bool (Lib.isSpaceZ r)) ∧ Below w.heap.size w w' := Any.unicode_isExcludingLatin_white Tryd.lays261 T oT R oR r w hlo hhi hr h2 h3 h4 h5
open Go.RowKit Go.Lib in
/-- **unicode.IsSpace AT EVERY int32.** (LAID: no walk: one application.) -/
theorem Tryd.unicode_IsSpace_any (r : Int) (w : World) (hlo : -2147483648 ≤ r) (hhi : r ≤ 2147483647) (hW : Lib.WhiteTab 1 w) :
    Calls Tryd.prog 48 #[.int .i32 r] w fun e w' => e = .returned (.bool (Lib.isSpaceZ r)) ∧ Below w.heap.size w w' := Any.unicode_IsSpace_any Tryd.lays199 r w hlo hhi hW
open Go.RowKit Go.Lib in
theorem Tryd.unicode_is16_any (T : Array Rg) (R oR cap : Nat) (z : Nat) (w : World) (hz : z < 65536) (hT : RgTab .u16 R oR T w) (hok : RgOk 65536 T) (hn : T.size ≤ 1000000000) :
    Calls Tryd.prog 78 #[.slice (some ⟨R, oR, none⟩) T.size cap, .int .u16 z] w fun e w' => e = .returned (.bool (is16Go T z)) ∧ ∃ q, w' = w.drewN q := Any.unicode_is16_any Tryd.lays311 T R oR cap z w hz hT hok hn
def Tryd.lays312_ren : Go.Shelf.Ren := ⟨fun | 312 => 79 | n => n, fun | 194 => 110 | 51 => 88 | 4 => 4 | 3 => 3 | 0 => 0 | 227 => 132 | 201 => 118 | 46 => 99 | n => n, fun | n => n⟩
theorem Tryd.lays312 : Go.Proofs.Lays.n312 Tryd.prog Tryd.lays312_ren := {
  mixed := by kernel_rfl
  f312 := Tryd.func79.trans (congrArg some (by kernel_rfl))
  t0 := Tryd.underlying0
  a0 := Tryd.isAgg0
  z0 := Tryd.sizeOf0
  v0 := Tryd.zeroValue0
  t3 := Tryd.underlying3
  a3 := Tryd.isAgg3
  z3 := Tryd.sizeOf3
  v3 := Tryd.zeroValue3
  t4 := Tryd.underlying4
  a4 := Tryd.isAgg4
  z4 := Tryd.sizeOf4
  v4 := Tryd.zeroValue4
  t46 := Tryd.underlying99
  a46 := Tryd.isAgg99
  z46 := Tryd.sizeOf99
  v46 := Tryd.zeroValue99
  t51 := Tryd.underlying88
  a51 := Tryd.isAgg88
  z51 := Tryd.sizeOf88
  v51 := Tryd.zeroValue88
  t194 := Tryd.underlying110
  a194 := Tryd.isAgg110
  z194 := Tryd.sizeOf110
  v194 := Tryd.zeroValue110
  t201 := Tryd.underlying118
  a201 := Tryd.isAgg118
  z201 := Tryd.sizeOf118
  v201 := Tryd.zeroValue118
  t227 := Tryd.underlying132
  a227 := Tryd.isAgg132
  z227 := Tryd.sizeOf132
  v227 := Tryd.zeroValue132 }
open Go.RowKit Go.Lib in
theorem Tryd.unicode_is32_any (T : Array Rg) (R oR cap : Nat) (z : Nat) (w : World) (hz : z < 4294967296) (hT : RgTab .u32 R oR T w) (hok : RgOk 4294967296 T) (hn : T.size ≤ 1000000000) :
    Calls Tryd.prog 79 #[.slice (some ⟨R, oR, none⟩) T.size cap, .int .u32 z] w fun e w' => e = .returned (.bool (is32Go T z)) ∧ Below w.heap.size w w' := Any.unicode_is32_any Tryd.lays312 T R oR cap z w hz hT hok hn
open Go.RowKit Go.Lib in
theorem Tryd.unicode_isExcludingLatin_any (Tb oT : Nat) (T : RTab) (r : Int) (w : World) (hlo : -2147483648 ≤ r) (hhi : r ≤ 2147483647) (hA : RTabAt Tb oT T w) (hok : RTabOk T) :
    Calls Tryd.prog 62 #[.pointer (some ⟨Tb, oT, none⟩), .int .i32 r] w fun e w' => e = .returned (.bool (exclGo T r)) ∧ Below w.heap.size w w' := Any.unicode_isExcludingLatin_any Tryd.lays261 Tb oT T r w hlo hhi hA hok
def Tryd.lays109_ren : Go.Shelf.Ren := ⟨fun | 109 => 25 | n => n, fun | 31 => 36 | 9 => 9 | 3 => 3 | 0 => 0 | 4 => 4 | n => n, fun | n => n⟩
theorem Tryd.lays109 : Go.Proofs.Lays.n109 Tryd.prog Tryd.lays109_ren := {
  mixed := by kernel_rfl
  f109 := Tryd.func25.trans (congrArg some (by kernel_rfl))
  t0 := Tryd.underlying0
  a0 := Tryd.isAgg0
  z0 := Tryd.sizeOf0
  v0 := Tryd.zeroValue0
  t3 := Tryd.underlying3
  a3 := Tryd.isAgg3
  z3 := Tryd.sizeOf3
  v3 := Tryd.zeroValue3
  t4 := Tryd.underlying4
  a4 := Tryd.isAgg4
  z4 := Tryd.sizeOf4
  v4 := Tryd.zeroValue4
  t9 := Tryd.underlying9
  a9 := Tryd.isAgg9
  z9 := Tryd.sizeOf9
  v9 := Tryd.zeroValue9
  t31 := Tryd.underlying36
  a31 := Tryd.isAgg36
  z31 := Tryd.sizeOf36
  v31 := Tryd.zeroValue36 }
open Go.Lib in
/-- slices.Index at []string: "Index returns the index of the first occurrence of v in s, or -1 if not present.": IT RETURNS 'Lib.idxOfS (the elements) v'; the world is as it was. 'zs': what the cells behind the slice's address hold (its spare capacity too, if you have it); 'zs.take n': its elements. (LAID: no walk: one application.) -/
theorem Tryd.slices_Index_string (b off n c : Nat) (zs : List ByteArray) (x : ByteArray) (w : World) (hz : n ≤ zs.length) (hbig : n ≤ 9223372036854775807) (hc : ∀ j, j < zs.length → w.cell? ⟨b, off + j, none⟩ = some (.string (zs.getD j ByteArray.empty))) :
    Calls Tryd.prog 25 #[.slice (some ⟨b, off, none⟩) n c, .string x] w fun e w' => e = .returned (.int .i64 (Lib.idxOfS (zs.take n) x)) ∧ w' = w := Any.slices_Index_string Tryd.lays109 b off n c zs x w hz hbig hc
open Go.Lib in
/-- The same at a slice of length 0, a nil one too: no cell is known, none is asked for. (LAID: no walk: one application.) -/
theorem Tryd.slices_Index_string_empty (a : Option Addr) (c : Nat) (x : ByteArray) (w : World) :
    Calls Tryd.prog 25 #[.slice a 0 c, .string x] w fun e w' => e = .returned (.int .i64 (Lib.idxOfS [] x)) ∧ w' = w := Any.slices_Index_string_empty Tryd.lays109 a c x w
end Go.Proofs
namespace Go.Proofs.YtkajfjmplaobbaaDoor
open Go Go.Sx Go.Sx.Chunk Go.RowKit
set_option linter.unusedVariables false
set_option linter.unusedSimpArgs false

theorem st_below {w w' : World} (h : Below w.heap.size w w') : St w (ownsW []) w' [] := ⟨⟨h.os, h.tape, h.output, h.size, fun k hk _ => h.block k hk⟩, trivial⟩
theorem fnc_below {P : Program} {f : FuncId} {args : List Value} {v : Value} {B : List Chunk} (hc : Called P f) (h : ∀ w, Sep w (ownsW []) w B → Calls P f args.toArray w fun e w' => e = .returned v ∧ Below w.heap.size w w') :
    FnC (α := Unit) P f args [] B (fun _ => v) (fun _ => []) (fun _ => True) :=
  ⟨hc, fun w hw => (h w hw.sep).mono fun e w' ⟨he, hw'⟩ => ⟨(), he, st_below hw', trivial⟩⟩
def pow10V : Chunk := glb 5 (Lib.pow10Tab.map fun z => Value.int .u64 z)
def spaceV : Chunk := glb 0 (Lib.asciiSpaceTab.map fun z => Value.int .u8 z)
theorem itoaC (n : Int) (h0 : -9223372036854775808 ≤ n) (h1 : n ≤ 9223372036854775807) : FnC (α := Unit) Tryd.prog 19 [.int .i64 n] [] [pow10V] (fun _ => .string ⟨(Lib.itoa n).toArray⟩) (fun _ => []) (fun _ => True) :=
  fnc_grow ⟨_, _, Tryd.func19, rfl, by kernel_rfl⟩ fun w hw => _root_.Go.Proofs.Tryd.strconv_Itoa n h0 h1 w (glb_tab (by kernel_rfl) hw.1)
theorem trimC (s p : ByteArray) : FnC (α := Unit) Tryd.prog 26 [.string s, .string p] [] [] (fun _ => .string ⟨(Lib.trimPrefix s.data.toList p.data.toList).toArray⟩) (fun _ => []) (fun _ => True) :=
  fnc_same ⟨_, _, Tryd.func26, rfl, by kernel_rfl⟩ fun w hw => _root_.Go.Proofs.Tryd.strings_TrimPrefix s p w
theorem fieldsC (s : ByteArray) (hs : s.size < 4294967281) (hascii : ∀ (j : Nat) b, s.data.toList[j]? = some b → b.toNat < 128) (hn : (Lib.fields s.data.toList).length ≤ maxLen) :
    FnC Tryd.prog 37 [.string s] [] [spaceV] (fun a : Option Addr => .slice a (Lib.fields s.data.toList).length (Lib.fields s.data.toList).length) (fun a => [row a (Lib.fields s.data.toList).length 9 1 (Lib.fields s.data.toList).length ((Lib.fields s.data.toList).map fun l => Value.string ⟨l.toArray⟩)]) (fun _ => True) :=
  fnc_alloc ⟨_, _, Tryd.func37, rfl, by kernel_rfl⟩ (by simp) hn fun w hw => _root_.Go.Proofs.Tryd.strings_Fields s w hs hascii (glb_tab (by kernel_rfl) hw.1)
theorem rng_cell {w : World} {b off : Nat} {cs : List Value} (h : (rng (some ⟨b, off, none⟩) cs).ok w) {j : Nat} {v : Value} (hj : cs[j]? = some v) : w.cell? ⟨b, off + j, none⟩ = some v := by
  obtain ⟨a, ha, hc⟩ := h j v hj
  cases ha
  have e : (⟨b, off, none⟩ : Addr).add j = ⟨b, off + j, none⟩ := by unfold Addr.add; split <;> simp_all
  rw [e] at hc
  exact hc
def maxV (m : Int) : Chunk := rng (some ⟨2, 0, none⟩) [.int .i64 m]
theorem st_draw {w : World} {n : Nat} : St w (ownsW []) (w.drewN n) [] := ⟨⟨rfl, rfl, rfl, Nat.le_refl _, fun _ _ _ => rfl⟩, trivial⟩
theorem cutC (s sep : ByteArray) (m : Int) (hs : s.size < 4294967281) : FnC (α := Unit) Tryd.prog 24 [.string s, .string sep] [] [maxV m] (fun _ => .tuple #[.string ⟨(Lib.cut s.data.toList sep.data.toList).1.toArray⟩, .string ⟨(Lib.cut s.data.toList sep.data.toList).2.1.toArray⟩, .bool (Lib.cut s.data.toList sep.data.toList).2.2]) (fun _ => []) (fun _ => True) :=
  ⟨⟨_, _, Tryd.func24, rfl, by kernel_rfl⟩, fun w hw => (_root_.Go.Proofs.Tryd.strings_Cut s sep m w hs (rng_cell hw.sep.1 (j := 0) rfl)).mono fun e w' ⟨he, n, hw'⟩ => ⟨(), he, by subst hw'; exact st_draw, trivial⟩⟩
theorem splitC (s sep : ByteArray) (m : Int) (hs : s.size < 4294967281) (h1 : 1 ≤ sep.size) (hn : Lib.countB s sep + 1 ≤ maxLen) (hl : (Lib.splitB sep 0 (Lib.countB s sep) s).length = Lib.countB s sep + 1) :
    FnC Tryd.prog 27 [.string s, .string sep] [] [maxV m] (fun a : Option Addr => .slice a (Lib.countB s sep + 1) (Lib.countB s sep + 1)) (fun a => [row a (Lib.countB s sep + 1) 9 1 (Lib.countB s sep + 1) ((Lib.splitB sep 0 (Lib.countB s sep) s).map Value.string)]) (fun _ => True) :=
  fnc_alloc ⟨_, _, Tryd.func27, rfl, by kernel_rfl⟩ (by rw [List.length_map, hl]) hn fun w hw => _root_.Go.Proofs.Tryd.strings_Split s sep m w hs (rng_cell hw.1 (j := 0) rfl) h1
theorem indexC (b off c : Nat) (zs : List ByteArray) (x : ByteArray) (hbig : zs.length ≤ 9223372036854775807) : FnC (α := Unit) Tryd.prog 25 [.slice (some ⟨b, off, none⟩) zs.length c, .string x] [] [rng (some ⟨b, off, none⟩) (zs.map Value.string)] (fun _ => .int .i64 (Lib.idxOfS zs x)) (fun _ => []) (fun _ => True) :=
  fnc_same ⟨_, _, Tryd.func25, rfl, by kernel_rfl⟩ fun w hw => by
    have := _root_.Go.Proofs.Tryd.slices_Index_string b off zs.length c zs x w (Nat.le_refl _) hbig (fun j hj => rng_cell hw.1 (by rw [List.getElem?_map, List.getElem?_eq_getElem hj]; simp [List.getD, List.getElem?_eq_getElem hj]))
    rw [List.take_length] at this
    exact this
theorem joinC (b off c : Nat) (xs : List ByteArray) (sep : ByteArray) (h0 : xs ≠ []) (hN : xs.length ≤ 140737488355328) (hcap : xs.length ≤ c) (hlen : (Lib.join (xs.map (·.data.toList)) sep.data.toList).length ≤ 140737488355328) :
    FnC (α := Unit) Tryd.prog 22 [.slice (some ⟨b, off, none⟩) xs.length c, .string sep] [] [rng (some ⟨b, off, none⟩) (xs.map Value.string)] (fun _ => .string ⟨(Lib.join (xs.map (·.data.toList)) sep.data.toList).toArray⟩) (fun _ => []) (fun _ => True) :=
  fnc_below ⟨_, _, Tryd.func22, rfl, by kernel_rfl⟩ fun w hw => _root_.Go.Proofs.Tryd.strings_Join b off c xs sep w (fun j x hj => rng_cell hw.1 (by rw [List.getElem?_map, hj]; rfl)) (hw.2.1 b ⟨by simpa using h0, ⟨b, off, none⟩, rfl, rfl⟩).1 hN hcap hlen
theorem atoiOkC (s : ByteArray) (n : Int) (hl : s.size ≤ 1000000) (h : Lib.atoiAll s.data.toList = .ok n) : FnC (α := Unit) Tryd.prog 28 [.string s] [] [] (fun _ => .tuple #[.int .i64 n, .nilIface]) (fun _ => []) (fun _ => True) :=
  ⟨⟨_, _, Tryd.func28, rfl, by kernel_rfl⟩, fun w hw => (_root_.Go.Proofs.Tryd.strconv_Atoi_ok s (by omega) n h w).mono fun e w' ⟨he, hw'⟩ => ⟨(), he, by
    rcases hw' with hw' | ⟨t, hw'⟩
    · subst hw'; exact ⟨Base.refl _ _, trivial⟩
    · subst hw'; exact st_below (Lib.bytesWorld_below w _ _), trivial⟩⟩
def errV (ev : Value) : Chunk := rng (some ⟨3, 0, none⟩) [ev]
def erangeV (ev : Value) : Chunk := rng (some ⟨4, 0, none⟩) [ev]
def IfV (ev : Value) : Prop := ev = .nilIface ∨ ∃ te pe, ev = .iface te pe
theorem atoiSynC (s : ByteArray) (ev : Value) (hl : s.size ≤ 1000000) (h : Lib.atoiAll s.data.toList = Lib.atoiAll []) (hev : IfV ev) : FnC Tryd.prog 28 [.string s] [] [errV ev] (fun N : Nat => .tuple #[.int .i64 0, .iface 80 (.pointer (some ⟨N, 0, none⟩))]) (fun _ => []) (fun _ => True) :=
  ⟨⟨_, _, Tryd.func28, rfl, by kernel_rfl⟩, fun w hw => (_root_.Go.Proofs.Tryd.strconv_Atoi_syntax s (by omega) h ev w (rng_cell hw.sep.1 (j := 0) rfl) hev).mono fun e w' ⟨N, he, _, _, hw'⟩ => ⟨N, he, st_below hw', trivial⟩⟩
theorem atoiRngC (s : ByteArray) (ev : Value) (hl : s.size ≤ 1000000) (h : Lib.atoiAll s.data.toList = .range) (hev : IfV ev) : FnC Tryd.prog 28 [.string s] [] [erangeV ev] (fun N : Nat => .tuple #[.int .i64 (Lib.atoiSat s.data.toList), .iface 80 (.pointer (some ⟨N, 0, none⟩))]) (fun _ => []) (fun _ => True) :=
  ⟨⟨_, _, Tryd.func28, rfl, by kernel_rfl⟩, fun w hw => (_root_.Go.Proofs.Tryd.strconv_Atoi_range s (by omega) h ev w (rng_cell hw.sep.1 (j := 0) rfl) hev).mono fun e w' ⟨N, he, _, _, hw'⟩ => ⟨N, he, st_below hw', trivial⟩⟩
end Go.Proofs.YtkajfjmplaobbaaDoor
namespace Go.Proofs.YtkajfjmplaobbaaDoor
open Go Go.Sx Go.Sx.Chunk
set_option linter.unusedVariables false
set_option linter.unusedSimpArgs false

def nmT : ByteArray := ⟨#[110, 111, 112, 32, 97, 100, 100, 32, 115, 117, 98, 32, 109, 117, 108, 32, 100, 105, 118, 32, 109, 111, 100, 32, 97, 110, 100, 32, 111, 114, 32, 115, 108, 116, 32, 115, 101, 113, 32, 97, 100, 100, 105, 32, 108, 117, 105, 32, 108, 119, 32, 115, 119, 32, 99, 104, 101, 99, 107, 32, 98, 101, 113, 32, 98, 110, 101, 32, 106, 109, 112, 32, 106, 97, 108, 32, 106, 114, 32, 115, 121, 115]⟩
def nmL : List (List UInt8) := [[110, 111, 112], [97, 100, 100], [115, 117, 98], [109, 117, 108], [100, 105, 118], [109, 111, 100], [97, 110, 100], [111, 114], [115, 108, 116], [115, 101, 113], [97, 100, 100, 105], [108, 117, 105], [108, 119], [115, 119], [99, 104, 101, 99, 107], [98, 101, 113], [98, 110, 101], [106, 109, 112], [106, 97, 108], [106, 114], [115, 121, 115]]
theorem nm_fields : Lib.fields nmT.data.toList = nmL := by decide +kernel
theorem nm_ascii : ∀ (j : Nat) b, nmT.data.toList[j]? = some b → b.toNat < 128 := by
  intro j b h
  have h2 : nmT.data.toList.all (fun b => decide (b.toNat < 128)) = true := by decide +kernel
  have h3 := List.all_eq_true.1 h2 b (List.mem_of_getElem? h)
  simpa using h3
set_option maxRecDepth 100000 in
theorem nmC : FnC Tryd.prog 21 [] [] [spaceV] (fun a : Option Addr => .slice a 21 21) (fun a => [row a 21 9 1 21 (nmL.map fun l => Value.string ⟨l.toArray⟩)]) (fun _ => True) := by
  have h := fieldsC nmT (by decide +kernel) nm_ascii (by rw [nm_fields]; decide)
  rw [nm_fields] at h
  rw [show nmL.length = 21 from rfl] at h
  refine fn_intro Tryd.func21 Tryd.ntmps21 rfl rfl rfl (fun w0 => ?_)
  try simp only [List.cons_append, List.nil_append, List.append_nil]
  refine rr ?_
  refine cl (h) ?_
  intro a _
  try simp only [List.cons_append, List.nil_append, List.append_nil]
  refine rr ?_
  exact en a trivial
def foT : ByteArray := ⟨#[45, 32, 97, 98, 99, 32, 97, 98, 99, 32, 97, 98, 99, 32, 97, 98, 99, 32, 97, 98, 99, 32, 97, 98, 99, 32, 97, 98, 99, 32, 97, 98, 99, 32, 97, 98, 99, 32, 97, 98, 105, 32, 97, 105, 32, 97, 98, 105, 32, 97, 98, 105, 32, 97, 98, 105, 32, 97, 98, 105, 32, 97, 98, 105, 32, 105, 32, 105, 32, 97, 32, 105]⟩
def foL : List (List UInt8) := [[45], [97, 98, 99], [97, 98, 99], [97, 98, 99], [97, 98, 99], [97, 98, 99], [97, 98, 99], [97, 98, 99], [97, 98, 99], [97, 98, 99], [97, 98, 105], [97, 105], [97, 98, 105], [97, 98, 105], [97, 98, 105], [97, 98, 105], [97, 98, 105], [105], [105], [97], [105]]
theorem fo_fields : Lib.fields foT.data.toList = foL := by decide +kernel
theorem fo_ascii : ∀ (j : Nat) b, foT.data.toList[j]? = some b → b.toNat < 128 := by
  intro j b h
  have h2 : foT.data.toList.all (fun b => decide (b.toNat < 128)) = true := by decide +kernel
  have h3 := List.all_eq_true.1 h2 b (List.mem_of_getElem? h)
  simpa using h3
set_option maxRecDepth 100000 in
theorem foC : FnC Tryd.prog 18 [] [] [spaceV] (fun a : Option Addr => .slice a 21 21) (fun a => [row a 21 9 1 21 (foL.map fun l => Value.string ⟨l.toArray⟩)]) (fun _ => True) := by
  have h := fieldsC foT (by decide +kernel) fo_ascii (by rw [fo_fields]; decide)
  rw [fo_fields] at h
  rw [show foL.length = 21 from rfl] at h
  refine fn_intro Tryd.func18 Tryd.ntmps18 rfl rfl rfl (fun w0 => ?_)
  try simp only [List.cons_append, List.nil_append, List.append_nil]
  refine rr ?_
  refine cl (h) ?_
  intro a _
  try simp only [List.cons_append, List.nil_append, List.append_nil]
  refine rr ?_
  exact en a trivial
end Go.Proofs.YtkajfjmplaobbaaDoor
namespace Go.Proofs.YtkajfjmplaobbaaDoor
open Go Go.Sx Go.Sx.Chunk
set_option linter.unusedVariables false
set_option linter.unusedSimpArgs false

def partF (i : In) (c : Int) : Int := if c = 97 then i.a else if c = 98 then i.b else if c = 99 then i.c else i.imm
def withF (i : In) (c n : Int) : In := if c = 97 then { i with a := n } else if c = 98 then { i with b := n } else if c = 99 then { i with c := n } else { i with imm := n }
theorem partC (i : In) (c : Int) : FnC (α := Unit) Tryd.prog 20 [inG i, .int .u8 c] [] [] (fun _ => .int .i64 (partF i c)) (fun _ => []) (fun _ => True) := by
  unfold inG partF
  refine fn_intro Tryd.func20 Tryd.ntmps20 rfl rfl rfl (fun w0 => ?_)
  try simp only [List.cons_append, List.nil_append, List.append_nil]
  refine rr ?_
  intro b1 _
  refine rr ?_
  by_cases h1 : c = 97
  · subst h1
    refine rr ?_
    exact en () trivial
  rw [if_neg h1]
  have g1 : (c == 97) = false := by simpa using h1
  by_cases h2 : c = 98
  · subst h2
    refine rr ?_
    exact en () trivial
  rw [if_neg h2]
  have g2 : (c == 98) = false := by simpa using h2
  by_cases h3 : c = 99
  · subst h3
    refine rr ?_
    exact en () trivial
  rw [if_neg h3]
  have g3 : (c == 99) = false := by simpa using h3
  refine rr ?_
  exact en () trivial
theorem withC (i : In) (c n : Int) : FnC (α := Unit) Tryd.prog 29 [inG i, .int .u8 c, .int .i64 n] [] [] (fun _ => inG (withF i c n)) (fun _ => []) (fun _ => True) := by
  unfold inG withF
  refine fn_intro Tryd.func29 Tryd.ntmps29 rfl rfl rfl (fun w0 => ?_)
  try simp only [List.cons_append, List.nil_append, List.append_nil]
  refine rr ?_
  intro b1 _
  refine rr ?_
  intro b2 _
  refine rr ?_
  by_cases h1 : c = 97
  · subst h1
    refine rr ?_
    exact en () trivial
  rw [if_neg h1]
  have g1 : (c == 97) = false := by simpa using h1
  by_cases h2 : c = 98
  · subst h2
    refine rr ?_
    exact en () trivial
  rw [if_neg h2]
  have g2 : (c == 98) = false := by simpa using h2
  by_cases h3 : c = 99
  · subst h3
    refine rr ?_
    exact en () trivial
  rw [if_neg h3]
  have g3 : (c == 99) = false := by simpa using h3
  refine rr ?_
  exact en () trivial
end Go.Proofs.YtkajfjmplaobbaaDoor
namespace Go.Proofs.YtkajfjmplaobbaaDoor
open Go Go.Sx Go.Sx.Chunk
set_option linter.unusedVariables false
set_option linter.unusedSimpArgs false

theorem good_parts {i : In} (h : goodI i = true) : 0 ≤ i.op ∧ i.op ≤ 20 ∧ 0 ≤ i.a ∧ i.a ≤ 31 ∧ 0 ≤ i.b ∧ i.b ≤ 31 ∧ 0 ≤ i.c ∧ i.c ≤ 31 ∧ -32768 ≤ i.imm ∧ i.imm ≤ 32767 ∧ (i.c = 0 ∨ i.imm = 0) ∧ (hasI i.op = true → i.c = 0) ∧ (hasI i.op = false → i.imm = 0) := by
  unfold goodI at h
  simp only [Bool.and_eq_true, Bool.or_eq_true, decide_eq_true_eq] at h
  obtain ⟨⟨⟨⟨ho, ha⟩, hb⟩, hc⟩, hi⟩ := h
  have ho' : 0 ≤ i.op ∧ i.op ≤ 20 := by unfold okO at ho; simpa using ho
  have hr : ∀ (n : Int) (had : Bool), regI n had = true → 0 ≤ n ∧ n ≤ 31 ∧ (had = false → n = 0) := fun n had h => by
    unfold regI at h
    simp only [Bool.or_eq_true, Bool.and_eq_true, decide_eq_true_eq] at h
    rcases h with h | ⟨h1, h2⟩
    · subst h; exact ⟨by omega, by omega, fun _ => rfl⟩
    · exact ⟨by omega, by omega, fun h => by rw [h] at h1; cases h1⟩
  have h1 := hr _ _ ha
  have h2 := hr _ _ hb
  have h3 := hr _ _ hc
  have hn : -32768 ≤ i.imm ∧ i.imm ≤ 32767 := by
    rcases hi with hi | ⟨_, hi⟩
    · omega
    · unfold numI fits16 at hi
      split at hi
      · simp at hi; omega
      · split at hi
        · simp at hi; omega
        · split at hi
          · simp at hi; omega
          · simp at hi; omega
  have hci : hasI i.op = true → hasC i.op = false := fun h => by
    unfold hasI at h
    unfold hasC
    simp only [decide_eq_true_eq] at h
    simp only [decide_eq_false_iff_not]
    omega
  refine ⟨ho'.1, ho'.2, h1.1, h1.2.1, h2.1, h2.2.1, h3.1, h3.2.1, hn.1, hn.2, ?_, fun h => h3.2.2 (hci h), fun h => ?_⟩
  · rcases hi with hi | ⟨hi, _⟩
    · exact .inr hi
    · exact .inl (h3.2.2 (hci hi))
  · rcases hi with hi | ⟨hi, _⟩
    · exact hi
    · rw [h] at hi; cases hi
theorem part_range {i : In} (h : goodI i = true) (c : Int) : -32768 ≤ partF i c ∧ partF i c ≤ 32767 := by
  obtain ⟨h1, h2, h3, h4, h5, h6, h7, h8, h9, h10, _⟩ := good_parts h
  unfold partF
  split
  · omega
  · split
    · omega
    · split <;> omega
/-- The texts of an instruction's parts. -/
def prtF (i : In) (c : UInt8) : List (List UInt8) := if c.toNat = 45 then [] else [if c.toNat = 105 then Lib.itoa (partF i (c.toNat : Int)) else 114 :: Lib.itoa (partF i (c.toNat : Int))]
def prtsF (i : In) (l : List UInt8) : List (List UInt8) := l.flatMap (prtF i)
def formF (i : In) : List UInt8 := foL.getD i.op.toNat []
def nameOf (i : In) : List UInt8 := nmL.getD i.op.toNat []
/-- The text of an instruction. -/
def textF (i : In) : List UInt8 := if goodI i = false then [] else if prtsF i (formF i) = [] then nameOf i else nameOf i ++ [32] ++ Lib.join (prtsF i (formF i)) [44]
theorem prts_snoc (i : In) (l : List UInt8) (c : UInt8) : prtsF i (l ++ [c]) = prtsF i l ++ prtF i c := by simp [prtsF]
theorem form_at {op : Nat} (h : op < 21) : foL[op]? = some (foL.getD op []) := by
  rw [List.getD_eq_getElem?_getD]
  rw [List.getElem?_eq_getElem (by exact h)]
  rfl
theorem name_at {op : Nat} (h : op < 21) : nmL[op]? = some (nmL.getD op []) := by
  rw [List.getD_eq_getElem?_getD]
  rw [List.getElem?_eq_getElem (by exact h)]
  rfl
theorem form_len : ∀ k : Fin 21, (foL.getD k.val []).length ≤ 3 ∧ 1 ≤ (foL.getD k.val []).length := by decide +kernel
theorem name_len : ∀ k : Fin 21, (nmL.getD k.val []).length ≤ 5 := by decide +kernel
end Go.Proofs.YtkajfjmplaobbaaDoor
namespace Go.Proofs.YtkajfjmplaobbaaDoor
open Go Go.Sx Go.Sx.Chunk
set_option linter.unusedVariables false
set_option linter.unusedSimpArgs false

def bt (l : List UInt8) : ByteArray := ⟨l.toArray⟩
theorem bt_at {l : List UInt8} {i : Nat} {c : UInt8} (h : l[i]? = some c) : (⟨l.toArray⟩ : ByteArray)[i]? = some c := by
  have hi := (List.getElem?_eq_some_iff.1 h).1
  have hs : i < (⟨l.toArray⟩ : ByteArray).size := by simpa [ByteArray.size] using hi
  rw [show (⟨l.toArray⟩ : ByteArray)[i]? = some ((⟨l.toArray⟩ : ByteArray)[i]'hs) by simp [hs]]
  rw [← h, List.getElem?_eq_getElem hi]
  rfl
theorem bt_app (a b : List UInt8) : (⟨a.toArray⟩ : ByteArray) ++ ⟨b.toArray⟩ = ⟨(a ++ b).toArray⟩ := by
  apply ByteArray.ext
  rw [ByteArray.data_append]
  simp
theorem bt_size (a : List UInt8) : (⟨a.toArray⟩ : ByteArray).size = a.length := by simp [ByteArray.size]
def lsC (l : List (List UInt8)) : List Value := l.map fun x => Value.string ⟨x.toArray⟩
theorem dig_len : ∀ n, n < 100000 → (Lib.decDigits n).length ≤ 5 := by
  intro n h
  rw [Lib.decDigits_length]
  have h1 := Lib.nDigits_pos n
  rcases Nat.lt_or_ge n 10 with h0 | h0
  · rw [Lib.nDigits_small h0]; omega
  rw [Lib.nDigits_big (by omega)]
  rcases Nat.lt_or_ge (n / 10) 10 with h0 | h0
  · rw [Lib.nDigits_small h0]; omega
  rw [Lib.nDigits_big (by omega)]
  rcases Nat.lt_or_ge (n / 10 / 10) 10 with h0 | h0
  · rw [Lib.nDigits_small h0]; omega
  rw [Lib.nDigits_big (by omega)]
  rcases Nat.lt_or_ge (n / 10 / 10 / 10) 10 with h0 | h0
  · rw [Lib.nDigits_small h0]; omega
  rw [Lib.nDigits_big (by omega), Lib.nDigits_small (by omega)]
  omega
theorem itoa_len (n : Int) (h0 : -32768 ≤ n) (h1 : n ≤ 32767) : (Lib.itoa n).length ≤ 6 := by
  unfold Lib.itoa
  split
  · have := dig_len n.natAbs (by omega)
    simp; omega
  · have := dig_len n.toNat (by omega)
    omega
theorem prt_len {i : In} (h : goodI i = true) (c : UInt8) : ∀ x ∈ prtF i c, x.length ≤ 7 := by
  intro x hx
  have hr := part_range h (c.toNat : Int)
  have := itoa_len _ hr.1 hr.2
  unfold prtF at hx
  split at hx
  · cases hx
  · simp only [List.mem_singleton] at hx
    subst hx
    split
    · omega
    · simp; omega
theorem form_le (i : In) : (formF i).length ≤ 3 := by
  unfold formF
  by_cases h : i.op.toNat < 21
  · exact (form_len ⟨_, h⟩).1
  · have : foL.length = 21 := rfl
    rw [List.getD_eq_getElem?_getD, List.getElem?_eq_none (by omega)]
    simp
theorem join_len (l : List (List UInt8)) (hl : l.length ≤ 3) (h : ∀ x ∈ l, x.length ≤ 7) : (Lib.join l [44]).length ≤ 23 := by
  match l, hl with
  | [], _ => simp [Lib.join_nil]
  | [a], _ => have := h a (by simp); rw [Lib.join_one]; omega
  | [a, b], _ => have := h a (by simp); have := h b (by simp); rw [Lib.join_cons]; simp [Lib.joinTail]; omega
  | [a, b, c], _ => have := h a (by simp); have := h b (by simp); have := h c (by simp); rw [Lib.join_cons]; simp [Lib.joinTail]; omega
theorem prts_le (i : In) (l : List UInt8) : (prtsF i l).length ≤ l.length := by
  induction l with
  | nil => simp [prtsF]
  | cons a l ih =>
    simp only [prtsF, List.flatMap_cons, List.length_append, List.length_cons] at ih ⊢
    have : (prtF i a).length ≤ 1 := by unfold prtF; split <;> simp
    omega
theorem prts_len {i : In} (h : goodI i = true) (l : List UInt8) : ∀ x ∈ prtsF i l, x.length ≤ 7 := fun x hx => by
  obtain ⟨c, _, hc⟩ := List.mem_flatMap.1 hx
  exact prt_len h c x hc
theorem take_snoc {α : Type} {l : List α} {k : Nat} {a : α} (h : l[k]? = some a) : l.take (k + 1) = l.take k ++ [a] := by rw [List.take_add_one, h]; rfl
theorem name_le (i : In) : (nameOf i).length ≤ 5 := by
  unfold nameOf
  by_cases h : i.op.toNat < 21
  · exact name_len ⟨_, h⟩
  · have : nmL.length = 21 := rfl
    rw [List.getD_eq_getElem?_getD, List.getElem?_eq_none (by omega)]
    simp
set_option maxHeartbeats 4000000 in
theorem textC (i : In) : FnC (α := Unit) Tryd.prog 9 [inG i] [] [spaceV, pow10V] (fun _ => .string ⟨(textF i).toArray⟩) (fun _ => []) (fun _ => True) := by
  cases hg : goodI i with
  | false =>
    have e : textF i = [] := by unfold textF; rw [if_pos hg]
    rw [e]
    have hr := rightIC i
    rw [hg] at hr
    unfold inG
    unfold inG at hr
    refine fn_intro Tryd.func9 Tryd.ntmps9 rfl rfl rfl (fun w0 => ?_)
    try simp only [List.cons_append, List.nil_append, List.append_nil]
    refine rr ?_
    intro b1 _
    refine rr ?_
    refine cl (hr) ?_
    intro _ _
    try simp only [List.cons_append, List.nil_append, List.append_nil]
    refine rr ?_
    exact en () trivial
  | true =>
    obtain ⟨ho1, ho2, _⟩ := good_parts hg
    have hol : i.op.toNat < 21 := by omega
    have hfo : (foL.map fun l => Value.string ⟨l.toArray⟩)[i.op.toNat * 1]? = some (.string ⟨(formF i).toArray⟩) := by
      rw [List.getElem?_map, Nat.mul_one, form_at hol]; rfl
    have hna : (nmL.map fun l => Value.string ⟨l.toArray⟩)[i.op.toNat * 1]? = some (.string ⟨(nameOf i).toArray⟩) := by
      rw [List.getElem?_map, Nat.mul_one, name_at hol]; rfl
    have hr := rightIC i
    rw [hg] at hr
    have hrange := part_range hg
    have hfl := form_le i
    have hpl := prts_le i
    have hp7 := prts_len hg
    have hnl := name_le i
    have hpart : ∀ c : Int, FnC (α := Unit) Tryd.prog 20 [inG i, .int .u8 c] [] [] (fun _ => .int .i64 (partF i c)) (fun _ => []) (fun _ => True) := partC i
    unfold textF
    rw [if_neg (by rw [hg]; decide)]
    generalize hfm : formF i = fm at *
    generalize hnm : nameOf i = nm at *
    clear hg
    unfold inG at hr hpart ⊢
    refine fn_intro Tryd.func9 Tryd.ntmps9 rfl rfl rfl (fun w0 => ?_)
    try simp only [List.cons_append, List.nil_append, List.append_nil]
    refine rr ?_
    intro b1 _
    refine rr ?_
    refine cl (hr) ?_
    intro _ _
    try simp only [List.cons_append, List.nil_append, List.append_nil]
    refine rr ?_
    refine dx [1, 2, 0, 3, 4, 5] [2, 4] [] ?_
    refine rr ?_
    refine cld (foC) ?_
    intro a _
    try simp only [List.cons_append, List.nil_append, List.append_nil]
    refine rr ?_
    rw [bt_size]
    refine w_turn (fun w hw => hw.row_nil 9 1) ?_
    refine lo [1, 4, 16] (fun x : Nat × Option Addr × Nat × Nat × List Value => [(3, .slice x.2.1 x.2.2.2.1 x.2.2.1), (17, .int .i64 (x.1 : Int))]) (fun x => [(0, row x.2.1 x.2.2.1 9 1 x.2.2.2.1 x.2.2.2.2)]) (fun x => x.1 ≤ fm.length ∧ x.2.2.2.2 = lsC (prtsF i (fm.take x.1)) ∧ x.2.2.2.1 = (prtsF i (fm.take x.1)).length) (fun x => fm.length - x.1) (0, none, 0, 0, []) ⟨by omega, rfl, rfl⟩ ?_
    rintro ⟨k, ao, cap, n, cs⟩ ⟨hk, hcs, hn⟩ K1 hK1
    dsimp only at hk hcs hn ⊢
    have hle := hpl (fm.take k)
    rw [List.length_take] at hle
    by_cases hlt : k < fm.length
    · have hc0 : fm[k]? = some fm[k] := List.getElem?_eq_getElem hlt
      generalize fm[k] = c at hc0
      have hc : (⟨fm.toArray⟩ : ByteArray)[((k : Nat) : Int).toNat]? = some c := bt_at hc0
      have hsn : prtsF i (fm.take (k + 1)) = prtsF i (fm.take k) ++ prtF i c := by rw [take_snoc hc0, prts_snoc]
      by_cases h45 : c.toNat = 45
      · have hpr : prtF i c = [] := by unfold prtF; rw [if_pos h45]
        rw [hpr, List.append_nil] at hsn
        refine rr ?_
        exact ro hK1 (k + 1, ao, cap, n, cs) ⟨by dsimp only; omega, by dsimp only; rw [hsn]; exact hcs, by dsimp only; rw [hsn]; exact hn⟩
      · have hi6 := itoa_len _ (hrange (c.toNat : Int)).1 (hrange (c.toNat : Int)).2
        have hit := itoaC (partF i (c.toNat : Int)) (by have := (hrange (c.toNat : Int)).1; omega) (by have := (hrange (c.toNat : Int)).2; omega)
        by_cases h105 : c.toNat = 105
        · have hpr : prtF i c = [Lib.itoa (partF i (c.toNat : Int))] := by unfold prtF; rw [if_neg h45, if_pos h105]
          refine rr ?_
          refine dx [0, 1, 2, 3, 4, 5, 6] [0] [] ?_
          refine rr ?_
          refine cld (hpart (c.toNat : Int)) ?_
          intro _ _
          try simp only [List.cons_append, List.nil_append, List.append_nil]
          refine rr ?_
          refine cld (hit) ?_
          intro _ _
          try simp only [List.cons_append, List.nil_append, List.append_nil]
          refine rr ?_
          intro bb _
          refine rr ?_
          rintro ⟨za, zc⟩ ⟨zh, _⟩
          refine rr ?_
          refine ro hK1 (k + 1, za, zc, n + 1, cs ++ [.string ⟨(Lib.itoa (partF i (c.toNat : Int))).toArray⟩]) ⟨by dsimp only; omega, by dsimp only; rw [hsn, hpr, hcs]; simp [lsC], by dsimp only; rw [hsn, hpr, hn]; simp⟩
        · have hpr : prtF i c = [114 :: Lib.itoa (partF i (c.toNat : Int))] := by unfold prtF; rw [if_neg h45, if_neg h105]
          have hzs : (⟨(Lib.itoa (partF i (c.toNat : Int))).toArray⟩ : ByteArray).size ≤ 6 := by rw [bt_size]; exact hi6
          refine rr ?_
          refine dx [0, 1, 2, 3, 4, 5, 6] [0] [] ?_
          refine rr ?_
          refine cld (hpart (c.toNat : Int)) ?_
          intro _ _
          try simp only [List.cons_append, List.nil_append, List.append_nil]
          refine rr ?_
          refine cld (hit) ?_
          intro _ _
          try simp only [List.cons_append, List.nil_append, List.append_nil]
          refine rr ?_
          intro bb _
          refine rr ?_
          rintro ⟨za, zc⟩ ⟨zh, _⟩
          refine rr ?_
          refine ro hK1 (k + 1, za, zc, n + 1, cs ++ [.string (⟨#[114]⟩ ++ ⟨(Lib.itoa (partF i (c.toNat : Int))).toArray⟩)]) ⟨by dsimp only; omega, ?_, by dsimp only; rw [hsn, hpr, hn]; simp⟩
          dsimp only
          rw [hsn, hpr, hcs, show (⟨#[114]⟩ : ByteArray) = ⟨[114].toArray⟩ from rfl, bt_app]
          simp [lsC]
    · obtain rfl : k = fm.length := by omega
      rw [List.take_length] at hcs hn
      have h7 := hp7 fm
      by_cases hn0 : n = 0
      · have hp0 : prtsF i fm = [] := by rw [hn0] at hn; exact List.length_eq_zero_iff.1 hn.symm
        rw [if_pos hp0]
        refine rr ?_
        refine dx [1, 2, 0, 3, 4, 5] [2, 4] [] ?_
        refine rr ?_
        refine cld (nmC) ?_
        intro aa _
        try simp only [List.cons_append, List.nil_append, List.append_nil]
        refine rr ?_
        exact en () trivial
      · have hp0 : ¬ prtsF i fm = [] := by intro h; rw [h] at hn; exact hn0 hn
        rw [if_neg hp0]
        have hjl := join_len (prtsF i fm) (by have := hpl fm; omega) h7
        refine w_use (fun w hw => (hw.pick 0 rfl).row_some (by first | omega | decide | (simp; done) | (simp <;> omega))) ?_
        rintro ⟨g1, rfl⟩
        refine w_use (fun w hw => (hw.pick 0 rfl).row_cap) ?_
        intro hcap
        have hmm : (((prtsF i fm).map fun x => (⟨x.toArray⟩ : ByteArray)).map Value.string) = cs := by rw [hcs]; simp [lsC]
        have hmb : (((prtsF i fm).map fun x => (⟨x.toArray⟩ : ByteArray)).map (·.data.toList)) = prtsF i fm := by rw [List.map_map]; exact List.map_id' _
        have hj := joinC g1 0 cap ((prtsF i fm).map fun x => (⟨x.toArray⟩ : ByteArray)) ⟨#[44]⟩ (by simpa using hp0) (by rw [List.length_map]; have := hpl fm; omega) (by rw [List.length_map, ← hn]; exact hcap) (by rw [hmb]; exact Nat.le_trans hjl (by decide))
        rw [hmb, hmm, List.length_map, ← hn] at hj
        refine rr ?_
        refine dx [1, 2, 6, 0, 3, 4, 5, 7, 8, 9] [2, 4] [] ?_
        refine rr ?_
        refine cld (nmC) ?_
        intro aa _
        try simp only [List.cons_append, List.nil_append, List.append_nil]
        refine mo [] ?_
        refine rr ?_
        refine cld (hj) ?_
        intro _ _
        try simp only [List.cons_append, List.nil_append, List.append_nil]
        refine rr ?_
        refine en () trivial (hv := ?_)
        rw [show (⟨#[32]⟩ : ByteArray) = ⟨[32].toArray⟩ from rfl]
        simp only [packR, bt_app]
end Go.Proofs.YtkajfjmplaobbaaDoor
namespace Go.Proofs.YtkajfjmplaobbaaDoor
open Go Go.Sx Go.Sx.Chunk
set_option linter.unusedVariables false
set_option linter.unusedSimpArgs false

def parseI : List UInt8 → List (List UInt8) → In → Option In
  | [], _, i => some i
  | _, [], i => some i
  | c :: fs, w :: ws, i => match Lib.atoiAll (Lib.trimPrefix w [114]) with
    | .ok n => parseI fs ws (withF i (c.toNat : Int) n)
    | _ => none
def opF (n : List UInt8) : Int := Lib.idxOfS (nmL.map fun l => (⟨l.toArray⟩ : ByteArray)) ⟨n.toArray⟩
def bodyF (op : Int) (rest : List UInt8) : Option In := parseI (Lib.trimPrefix (foL.getD op.toNat []) [45]) (Lib.split rest [44]) ⟨op, 0, 0, 0, 0⟩
def parseF (s : List UInt8) : Option In :=
  if opF (Lib.cut s [32]).1 < 0 then none else match bodyF (opF (Lib.cut s [32]).1) (Lib.cut s [32]).2.1 with
    | none => none
    | some i => if textF i = s then some i else none
def parseV : Option In → Value
  | none => .tuple #[inG ⟨0, 0, 0, 0, 0⟩, .bool false]
  | some i => .tuple #[inG i, .bool true]
theorem idx_lt (x : ByteArray) : ∀ (zs : List ByteArray) (i : Nat), Lib.idxFromS zs x i < i + zs.length
  | [], i => by simp [Lib.idxFromS]; omega
  | z :: zs, i => by
    unfold Lib.idxFromS
    split
    · simp; omega
    · have := idx_lt x zs (i + 1)
      simp at this ⊢; omega
theorem opF_lt (n : List UInt8) : opF n < 21 := by
  have := idx_lt ⟨n.toArray⟩ (nmL.map fun l => (⟨l.toArray⟩ : ByteArray)) 0
  rw [List.length_map] at this
  have h2 : nmL.length = 21 := rfl
  rw [h2] at this
  exact this
theorem splitK_len (sep : List UInt8) : ∀ (k : Nat) (s : List UInt8), ∀ x ∈ Lib.splitK sep 0 k s, x.length ≤ s.length
  | 0, s, x, hx => by simp only [Lib.splitK, List.mem_singleton] at hx; rw [hx]; exact Nat.le_refl _
  | k + 1, s, x, hx => by
    unfold Lib.splitK at hx
    split at hx
    · simp only [List.mem_singleton] at hx; rw [hx]; exact Nat.le_refl _
    · rcases List.mem_cons.1 hx with h | h
      · rw [h, List.length_take]; omega
      · have := splitK_len sep k _ x h
        rw [List.length_drop] at this
        omega
theorem cut_len (s sep : List UInt8) : (Lib.cut s sep).1.length ≤ s.length ∧ (Lib.cut s sep).2.1.length ≤ s.length := by
  unfold Lib.cut
  split
  · dsimp only; rw [List.length_take, List.length_drop]; omega
  · exact ⟨Nat.le_refl _, Nat.zero_le _⟩
theorem trim_len (s p : List UInt8) : (Lib.trimPrefix s p).length ≤ s.length := by
  unfold Lib.trimPrefix
  split
  · rw [List.length_drop]; omega
  · exact Nat.le_refl _
theorem parseI_nil (ws : List (List UInt8)) (i : In) : parseI [] ws i = some i := by cases ws <;> rfl
theorem parseI_none (fs : List UInt8) (i : In) : parseI fs [] i = some i := by cases fs <;> rfl
theorem parseI_step {fs : List UInt8} {ws : List (List UInt8)} {k : Nat} {c : UInt8} {w : List UInt8} (i : In) (hc : fs[k]? = some c) (hw : ws[k]? = some w) :
    parseI (fs.drop k) (ws.drop k) i = match Lib.atoiAll (Lib.trimPrefix w [114]) with
      | .ok n => parseI (fs.drop (k + 1)) (ws.drop (k + 1)) (withF i (c.toNat : Int) n)
      | _ => none := by
  obtain ⟨h1, h2⟩ := List.getElem?_eq_some_iff.1 hc
  obtain ⟨h3, h4⟩ := List.getElem?_eq_some_iff.1 hw
  rw [List.drop_eq_getElem_cons h1, List.drop_eq_getElem_cons h3, h2, h4]
  rfl
set_option maxHeartbeats 8000000 in
theorem parseC (s : ByteArray) (hs : s.size ≤ 1000) (m : Int) (ev ev2 : Value) (hev : IfV ev) (hev2 : IfV ev2) :
    FnC (α := Unit) Tryd.prog 12 [.string s] [] [spaceV, pow10V, maxV m, errV ev, erangeV ev2] (fun _ => parseV (parseF s.data.toList)) (fun _ => []) (fun _ => True) := by
  have hct := cutC s ⟨#[32]⟩ m (by omega)
  rw [show (⟨#[32]⟩ : ByteArray).data.toList = [32] from rfl] at hct
  have hcl := cut_len s.data.toList [32]
  unfold parseF
  generalize Lib.cut s.data.toList [32] = r at *
  obtain ⟨nm, rest, fd⟩ := r
  dsimp only at hct hcl ⊢
  have hsl : s.data.toList.length = s.size := by simp
  have hop := opF_lt nm
  have hio : Lib.idxOfS (nmL.map fun l => (⟨l.toArray⟩ : ByteArray)) ⟨nm.toArray⟩ = opF nm := rfl
  have hnm2 : (nmL.map fun l => (⟨l.toArray⟩ : ByteArray)).map Value.string = nmL.map fun l => Value.string ⟨l.toArray⟩ := by rw [List.map_map]; rfl
  generalize opF nm = op at *
  refine fn_intro Tryd.func12 Tryd.ntmps12 rfl rfl rfl (fun w0 => ?_)
  try simp only [List.cons_append, List.nil_append, List.append_nil]
  refine rr ?_
  intro b2 _
  refine rr ?_
  refine cl (hct) ?_
  intro _ _
  try simp only [List.cons_append, List.nil_append, List.append_nil]
  refine rr ?_
  refine cl (nmC) ?_
  intro a _
  try simp only [List.cons_append, List.nil_append, List.append_nil]
  refine w_use (fun w hw => (hw.pick 0 rfl).row_some (by first | omega | decide | (simp; done) | (simp <;> omega))) ?_
  rintro ⟨g1, rfl⟩
  have hix := indexC g1 0 21 (nmL.map fun l => (⟨l.toArray⟩ : ByteArray)) ⟨nm.toArray⟩ (by rw [List.length_map]; decide)
  rw [hio, hnm2, List.length_map, show nmL.length = 21 from rfl] at hix
  refine rr ?_
  refine cl (hix) ?_
  intro _ _
  try simp only [List.cons_append, List.nil_append, List.append_nil]
  by_cases ho : op < 0
  · rw [if_pos ho]
    refine rr ?_
    exact en () trivial
  rw [if_neg ho]
  have hol : op.toNat < 21 := by omega
  have hfo : (foL.map fun l => Value.string ⟨l.toArray⟩)[op.toNat * 1]? = some (.string ⟨(foL.getD op.toNat []).toArray⟩) := by
    rw [List.getElem?_map, Nat.mul_one, form_at hol]; rfl
  unfold bodyF
  have htr := trimC ⟨(foL.getD op.toNat []).toArray⟩ ⟨#[45]⟩
  rw [show (⟨#[45]⟩ : ByteArray).data.toList = [45] from rfl, show (⟨(foL.getD op.toNat []).toArray⟩ : ByteArray).data.toList = foL.getD op.toNat [] from rfl] at htr
  have hfl : (Lib.trimPrefix (foL.getD op.toNat []) [45]).length ≤ 3 := Nat.le_trans (trim_len _ _) (form_len ⟨_, hol⟩).1
  generalize Lib.trimPrefix (foL.getD op.toNat []) [45] = fm at *
  have hrl : (⟨rest.toArray⟩ : ByteArray).size = rest.length := bt_size rest
  have hcb := Lib.countB_le ⟨#[44]⟩ (by decide) (⟨rest.toArray⟩ : ByteArray).size ⟨rest.toArray⟩ (Nat.le_refl _)
  have hspl := (Lib.splitB_all ⟨#[44]⟩ (by decide) 0 (Lib.countB ⟨rest.toArray⟩ ⟨#[44]⟩) ⟨rest.toArray⟩ rfl)
  have hsp := splitC ⟨rest.toArray⟩ ⟨#[44]⟩ m (by omega) (by decide) (by unfold maxLen; omega) hspl
  have hsd := Lib.splitB_data ⟨#[44]⟩ 0 (Lib.countB ⟨rest.toArray⟩ ⟨#[44]⟩) ⟨rest.toArray⟩
  have hse : Lib.split rest [44] = Lib.splitK [44] 0 (Lib.countB ⟨rest.toArray⟩ ⟨#[44]⟩) rest := rfl
  have hpl : ∀ x ∈ Lib.split rest [44], x.length ≤ rest.length := fun x hx => splitK_len _ _ _ x hx
  have hWl : (Lib.splitB ⟨#[44]⟩ 0 (Lib.countB ⟨rest.toArray⟩ ⟨#[44]⟩) ⟨rest.toArray⟩).length ≤ rest.length + 1 := by rw [hspl]; omega
  rw [← hspl] at hsp
  clear hcb
  rw [show (⟨#[44]⟩ : ByteArray).data.toList = [44] from rfl, show (⟨rest.toArray⟩ : ByteArray).data.toList = rest from rfl, ← hse] at hsd
  generalize Lib.splitB ⟨#[44]⟩ 0 (Lib.countB ⟨rest.toArray⟩ ⟨#[44]⟩) ⟨rest.toArray⟩ = W at *
  rw [← hsd] at hpl ⊢
  clear hsd hse hspl
  refine rr ?_
  intro b8 _
  refine rr ?_
  refine cl (foC) ?_
  intro a2 _
  try simp only [List.cons_append, List.nil_append, List.append_nil]
  refine rr ?_
  refine cl (htr) ?_
  intro _ _
  try simp only [List.cons_append, List.nil_append, List.append_nil]
  refine rr ?_
  refine cl (hsp) ?_
  intro a3 _
  try simp only [List.cons_append, List.nil_append, List.append_nil]
  refine rr ?_
  refine lo [0, 2, 8, 9, 34, 35] (fun x : Nat × In => [(36, .int .i64 (x.1 : Int))]) (fun x => [(2, blk b8 (inV x.2) 23)]) (fun x => x.1 ≤ W.length ∧ x.1 ≤ fm.length ∧ parseI fm (W.map (·.data.toList)) ⟨op, 0, 0, 0, 0⟩ = parseI (fm.drop x.1) ((W.map (·.data.toList)).drop x.1) x.2) (fun x => W.length - x.1) (0, ⟨op, 0, 0, 0, 0⟩) ⟨Nat.zero_le _, Nat.zero_le _, rfl⟩ ?_
  rintro ⟨k, i⟩ ⟨hk, hkf, hpi⟩ K1 hK1
  dsimp only at hk hkf hpi ⊢
  have hbs := bt_size fm
  have htx := textC i
  by_cases hlt : k < W.length
  · have hw0 : W[k]? = some W[k] := List.getElem?_eq_getElem hlt
    generalize W[k] = wb at hw0
    have hw1 : (W.map (·.data.toList))[k]? = some wb.data.toList := by rw [List.getElem?_map, hw0]; rfl
    have hw2 : (W.map Value.string)[((k : Nat) : Int).toNat * 1]? = some (.string wb) := by rw [Nat.mul_one, List.getElem?_map]; show (W[k]?).map _ = _; rw [hw0]; rfl
    have hwl := hpl wb.data.toList (List.mem_of_getElem? hw1)
    have hWM : (W.map Value.string).length = W.length := List.length_map ..
    by_cases hf : k < fm.length
    · have hc0 : fm[k]? = some fm[k] := List.getElem?_eq_getElem hf
      generalize fm[k] = c at hc0
      have hc : (⟨fm.toArray⟩ : ByteArray)[((k : Nat) : Int).toNat]? = some c := bt_at hc0
      rw [parseI_step i hc0 hw1] at hpi
      have htr2 := trimC wb ⟨#[114]⟩
      rw [show (⟨#[114]⟩ : ByteArray).data.toList = [114] from rfl] at htr2
      have htl := trim_len wb.data.toList [114]
      generalize Lib.trimPrefix wb.data.toList [114] = tw at *
      have htb := bt_size tw
      have hlim : (⟨tw.toArray⟩ : ByteArray).size ≤ 1000000 := by omega
      rcases hat : Lib.atoiAll tw with n | _ | _
      · have ha := atoiOkC ⟨tw.toArray⟩ n hlim hat
        have hwi := withC i (c.toNat : Int) n
        rw [hat] at hpi
        unfold inG at hwi
        refine rr ?_
        refine cl (htr2) ?_
        intro _ _
        try simp only [List.cons_append, List.nil_append, List.append_nil]
        refine rr ?_
        refine cl (ha) ?_
        intro _ _
        try simp only [List.cons_append, List.nil_append, List.append_nil]
        refine rr ?_
        refine dx [0, 1, 2, 3, 4, 5, 6] [0] [] ?_
        refine rr ?_
        refine cld (hwi) ?_
        intro _ _
        try simp only [List.cons_append, List.nil_append, List.append_nil]
        refine rr ?_
        exact ro hK1 (k + 1, withF i (c.toNat : Int) n) ⟨by dsimp only; omega, by dsimp only; omega, hpi⟩
      · have ha := atoiSynC ⟨tw.toArray⟩ ev hlim hat hev
        rw [hat] at hpi
        rw [hpi]
        refine rr ?_
        refine cl (htr2) ?_
        intro _ _
        try simp only [List.cons_append, List.nil_append, List.append_nil]
        refine rr ?_
        refine cl (ha) ?_
        intro N _
        try simp only [List.cons_append, List.nil_append, List.append_nil]
        refine rr ?_
        exact en () trivial
      · have ha := atoiRngC ⟨tw.toArray⟩ ev2 hlim hat hev2
        rw [hat] at hpi
        rw [hpi]
        refine rr ?_
        refine cl (htr2) ?_
        intro _ _
        try simp only [List.cons_append, List.nil_append, List.append_nil]
        refine rr ?_
        refine cl (ha) ?_
        intro N _
        try simp only [List.cons_append, List.nil_append, List.append_nil]
        refine rr ?_
        exact en () trivial
    · obtain rfl : k = fm.length := by omega
      rw [List.drop_length, parseI_nil] at hpi
      rw [hpi]
      dsimp only
      by_cases hq : textF i = s.data.toList
      · have hb : (⟨(textF i).toArray⟩ : ByteArray) = s := by rw [hq]
        rw [hb] at htx
        rw [if_pos hq]
        refine rr ?_
        refine cl (htx) ?_
        intro _ _
        try simp only [List.cons_append, List.nil_append, List.append_nil]
        refine rr ?_
        exact en () trivial
      · have hne : (⟨(textF i).toArray⟩ : ByteArray) ≠ s := by
          intro h
          exact hq (by rw [← h])
        have hb1 : (!decide ((⟨(textF i).toArray⟩ : ByteArray) = s)) = true := by simp [hne]
        have hb2 : decide ((⟨(textF i).toArray⟩ : ByteArray) ≠ s) = true := by simp [hne]
        rw [if_neg hq]
        refine rr ?_
        refine cl (htx) ?_
        intro _ _
        try simp only [List.cons_append, List.nil_append, List.append_nil]
        refine rr ?_
        exact en () trivial
  · obtain rfl : k = W.length := by omega
    rw [show (W.map (·.data.toList)).drop W.length = [] from List.drop_eq_nil_of_le (by rw [List.length_map]; exact Nat.le_refl _), parseI_none] at hpi
    rw [hpi]
    dsimp only
    by_cases hq : textF i = s.data.toList
    · have hb : (⟨(textF i).toArray⟩ : ByteArray) = s := by rw [hq]
      rw [hb] at htx
      rw [if_pos hq]
      refine rr ?_
      refine cl (htx) ?_
      intro _ _
      try simp only [List.cons_append, List.nil_append, List.append_nil]
      refine rr ?_
      exact en () trivial
    · have hne : (⟨(textF i).toArray⟩ : ByteArray) ≠ s := by
        intro h
        exact hq (by rw [← h])
      have hb1 : (!decide ((⟨(textF i).toArray⟩ : ByteArray) = s)) = true := by simp [hne]
      have hb2 : decide ((⟨(textF i).toArray⟩ : ByteArray) ≠ s) = true := by simp [hne]
      rw [if_neg hq]
      refine rr ?_
      refine cl (htx) ?_
      intro _ _
      try simp only [List.cons_append, List.nil_append, List.append_nil]
      refine rr ?_
      exact en () trivial
end Go.Proofs.YtkajfjmplaobbaaDoor
namespace Go.Proofs.YtkajfjmplaobbaaDoor
open Go Go.Sx Go.Sx.Chunk
set_option linter.unusedVariables false
set_option linter.unusedSimpArgs false

def bdP (b : Nat) (u : Bool) : Value := .pointer (if u then some ⟨b, 0, none⟩ else none)
def bdC (b : Nat) (u : Bool) (v : Value) : Chunk := blk b [bdP b u, v] 57
set_option maxRecDepth 100000 in
theorem copyC (b : Nat) (u : Bool) (v : Value) : FnC (α := Unit) Tryd.prog 45 [.pointer (some ⟨b, 0, none⟩)] [bdC b u v] [] (fun _ => .tuple #[]) (fun _ => [bdC b true v]) (fun _ => True) := by
  unfold bdC
  cases u with
  | true =>
    have hb : bdP b true = .pointer (some ⟨b, 0, none⟩) := rfl
    rw [hb]
    refine fn_intro Tryd.func45 Tryd.ntmps45 rfl rfl rfl (fun w0 => ?_)
    try simp only [List.cons_append, List.nil_append, List.append_nil]
    refine rr ?_
    exact en () trivial
  | false =>
    have hb : bdP b true = .pointer (some ⟨b, 0, none⟩) := rfl
    have hb2 : bdP b false = .pointer none := rfl
    rw [hb, hb2]
    refine fn_intro Tryd.func45 Tryd.ntmps45 rfl rfl rfl (fun w0 => ?_)
    try simp only [List.cons_append, List.nil_append, List.append_nil]
    refine rr ?_
    refine w_eff (eff_toUnsafe T (i := 0) rfl rfl rfl rfl rfl rfl rfl rfl rfl rfl) (fun _ _ => ?_)
    refine rr ?_
    refine w_eff (eff_same rfl Tryd.func61 (by kernel_rfl) (by kernel_rfl) (by kernel_rfl) (by kernel_rfl) rfl) (fun _ _ => ?_)
    refine rr ?_
    refine w_eff (eff_fromUnsafe T (i := 0) rfl rfl rfl rfl rfl rfl rfl rfl (by kernel_rfl)) (fun _ _ => ?_)
    refine rr ?_
    exact en () trivial
theorem writeC (b : Nat) (u : Bool) (ao : Option Addr) (n cap : Nat) (xs : List Value) (s : ByteArray) (hl : n + s.size ≤ 140737488355328) : FnC (α := Option Addr × Nat) Tryd.prog 32 [.pointer (some ⟨b, 0, none⟩), .string s] [bdC b u (.slice ao n cap), row ao cap 5 1 n xs] [] (fun _ => .tuple #[.int .i64 s.size, .nilIface])
    (fun z => [bdC b true (.slice z.1 (n + s.size) z.2), row z.1 z.2 5 1 (n + s.size) (xs ++ bytC s)]) (fun _ => True) := by
  have hc := copyC b u (.slice ao n cap)
  refine fn_intro Tryd.func32 Tryd.ntmps32 rfl rfl rfl (fun w0 => ?_)
  try simp only [List.cons_append, List.nil_append, List.append_nil]
  refine rr ?_
  refine cl (hc) ?_
  intro _ _
  try simp only [List.cons_append, List.nil_append, List.append_nil]
  unfold bdC
  refine rr ?_
  rintro ⟨za, zc⟩ zh
  refine rr ?_
  exact en (za, zc) trivial
def bsC (l : List UInt8) : List Value := l.map fun b => .int .u8 (b.toNat : Int)
theorem bytC_bs (s : ByteArray) : bytC s = bsC s.data.toList := rfl
theorem bsC_app (a b : List UInt8) : bsC (a ++ b) = bsC a ++ bsC b := List.map_append
theorem string0C (b : Nat) (u : Bool) (c : Nat) : FnC (α := Unit) Tryd.prog 33 [.pointer (some ⟨b, 0, none⟩)] [bdC b u (.slice none 0 c)] [] (fun _ => .string ⟨#[]⟩) (fun _ => [bdC b u (.slice none 0 c)]) (fun _ => True) := by
  unfold bdC
  refine fn_intro Tryd.func33 Tryd.ntmps33 rfl rfl rfl (fun w0 => ?_)
  try simp only [List.cons_append, List.nil_append, List.append_nil]
  refine rr ?_
  refine dx [0, 1, 2, 3, 5, 6, 7, 8, 9, 4, 10, 11] [3, 8] [] ?_
  refine rr ?_
  refine wa_eff rfl (by kernel_rfl) rfl (eff_sliceData0 rfl rfl) (by kernel_rfl) (fun _ => sub_cons (k := 0) rfl sub_nil) (fun _ _ => ?_)
  refine rr ?_
  refine wa_eff rfl (by kernel_rfl) rfl (eff_unsafeString0 rfl rfl rfl) (by kernel_rfl) (fun _ => sub_cons (k := 0) rfl sub_nil) (fun _ _ => ?_)
  refine rr ?_
  exact en () trivial
theorem stringC (b : Nat) (u : Bool) (g c : Nat) (l : List UInt8) (h0 : l ≠ []) : FnC (α := Unit) Tryd.prog 33 [.pointer (some ⟨b, 0, none⟩)] [bdC b u (.slice (some ⟨g, 0, none⟩) l.length c), row (some ⟨g, 0, none⟩) c 5 1 l.length (bsC l)] [] (fun _ => .string ⟨l.toArray⟩) (fun _ => []) (fun _ => True) := by
  unfold bdC
  have hl : 0 < l.length := by rcases l with _ | _; exact absurd rfl h0; simp
  refine fn_intro Tryd.func33 Tryd.ntmps33 rfl rfl rfl (fun w0 => ?_)
  try simp only [List.cons_append, List.nil_append, List.append_nil]
  refine w_use (fun w hw => (hw.pick 1 rfl).row_cap) ?_
  intro hcap
  refine rr ?_
  refine dx [0, 1, 2, 3, 5, 6, 7, 8, 9, 4, 10, 11] [3, 8] [1] ?_
  refine rr ?_
  refine wa_eff rfl (by kernel_rfl) rfl (eff_sliceData rfl (by omega) rfl) (by kernel_rfl) (fun _ => sub_cons (k := 0) rfl sub_nil) (fun _ _ => ?_)
  refine rr ?_
  refine wa_eff rfl (by kernel_rfl) rfl (eff_unsafeString (i := 1) T rfl rfl rfl rfl rfl (by kernel_rfl) h0 rfl) (by kernel_rfl) (fun _ => sub_cons (k := 0) rfl sub_nil) (fun _ _ => ?_)
  refine rr ?_
  exact en () trivial
end Go.Proofs.YtkajfjmplaobbaaDoor
namespace Go.Proofs.YtkajfjmplaobbaaDoor
open Go Go.Sx Go.Sx.Chunk
set_option linter.unusedVariables false
set_option linter.unusedSimpArgs false

def insC (l : List In) : List Value := l.flatMap inV
theorem insC_len (l : List In) : (insC l).length = l.length * 5 := flat_len (cells := inV) (sz := 5) (fun _ => rfl) l
theorem insC_all {l : List In} {k : Nat} {e : In} (h : l[k]? = some e) (n : Nat) (hn : n = k * 5) : ((insC l).drop n).take 5 = inV e := by subst hn; exact flat_get (cells := inV) (sz := 5) (fun _ => rfl) h
theorem some_at {α : Type} {l : List α} {k : Nat} (h : k < l.length) : ∃ e, l[k]? = some e := ⟨l[k], by simp [h]⟩
def rowF (n : Nat) (i : In) : List UInt8 := Lib.itoa (n : Int) ++ [58, 32] ++ textF i ++ [10]
def listF : Nat → List In → List UInt8
  | _, [] => []
  | n, i :: l => rowF n i ++ listF (n + 1) l
theorem listF_step {l : List In} {k : Nat} {i : In} (h : l[k]? = some i) (n : Nat) : listF n (l.drop k) = rowF n i ++ listF (n + 1) (l.drop (k + 1)) := by
  obtain ⟨h1, h2⟩ := List.getElem?_eq_some_iff.1 h
  rw [List.drop_eq_getElem_cons h1, h2]
  rfl
theorem text_le (i : In) : (textF i).length ≤ 29 := by
  unfold textF
  by_cases hg : goodI i = false
  · rw [if_pos hg]; simp
  · rw [if_neg hg]
    have hg' : goodI i = true := by simpa using hg
    have hn := name_le i
    have hj := join_len (prtsF i (formF i)) (by have := prts_le i (formF i); have := form_le i; omega) (prts_len hg' _)
    split
    · omega
    · simp only [List.length_append, List.length_cons, List.length_nil]; omega
set_option maxHeartbeats 4000000 in
theorem listC (a : Option Addr) (c : Nat) (l : List In) (hl : l.length ≤ 1000) : FnC (α := Unit) Tryd.prog 16 [.slice a l.length c] [] [rng a (insC l), spaceV, pow10V] (fun _ => .string ⟨(listF 0 l).toArray⟩) (fun _ => []) (fun _ => True) := by
  refine fn_intro Tryd.func16 Tryd.ntmps16 rfl rfl rfl (fun w0 => ?_)
  try simp only [List.cons_append, List.nil_append, List.append_nil]
  refine rr ?_
  intro b3 _
  refine rr ?_
  refine w_turn (fun w hw => hw.row_nil 5 1) ?_
  refine hv [bdC b3 false (.slice none 0 0), row none 0 5 1 0 [], rng a (insC l), spaceV, pow10V] ?_
  refine lo [3, 6, 7] (fun x : Nat × Bool × Option Addr × Nat × Nat × List Value × List UInt8 => [(8, .int .i64 (x.1 : Int))]) (fun x => [(0, bdC b3 x.2.1 (.slice x.2.2.1 x.2.2.2.1 x.2.2.2.2.1)), (1, row x.2.2.1 x.2.2.2.2.1 5 1 x.2.2.2.1 x.2.2.2.2.2.1)])
    (fun x => x.1 ≤ l.length ∧ x.1 ≤ x.2.2.2.1 ∧ (x.1 = 0 → x.2.2.1 = none ∧ x.2.2.2.1 = 0) ∧ x.2.2.2.1 = x.2.2.2.2.2.2.length ∧ x.2.2.2.1 ≤ 40 * x.1 ∧ x.2.2.2.2.2.1 = bsC x.2.2.2.2.2.2 ∧ listF 0 l = x.2.2.2.2.2.2 ++ listF x.1 (l.drop x.1)) (fun x => l.length - x.1) (0, false, none, 0, 0, [], []) ⟨Nat.zero_le _, Nat.zero_le _, fun _ => ⟨rfl, rfl⟩, rfl, Nat.zero_le _, rfl, rfl⟩ ?_
  rintro ⟨k, u, ao, n, cap, cs, bs⟩ ⟨hk, hkn, hk0, hn, hn40, hcs, hspec⟩ K1 hK1
  dsimp only at hk hkn hk0 hn hn40 hcs hspec ⊢
  by_cases hlt : k < l.length
  · obtain ⟨i, he⟩ := some_at hlt
    have hall : ((insC l).drop ((k : Int).toNat * 5)).take 5 = [.int .i64 i.op, .int .i64 i.a, .int .i64 i.b, .int .i64 i.c, .int .i64 i.imm] := insC_all he _ (by omega)
    have hlen := insC_len l
    have hit := itoaC (k : Int) (by omega) (by omega)
    have hil := itoa_len (k : Int) (by omega) (by omega)
    have htx := textC i
    have htl := text_le i
    rw [listF_step he] at hspec
    have hs1 : (⟨(Lib.itoa (k : Int)).toArray⟩ : ByteArray).size = (Lib.itoa (k : Int)).length := bt_size _
    have hs2 : (⟨(textF i).toArray⟩ : ByteArray).size = (textF i).length := bt_size _
    unfold inG at htx
    refine rr ?_
    intro b4 _
    refine rr ?_
    have hsr : (⟨(Lib.itoa (k : Int)).toArray⟩ ++ ⟨#[58, 32]⟩ ++ ⟨(textF i).toArray⟩ ++ ⟨#[10]⟩ : ByteArray) = ⟨(rowF k i).toArray⟩ := by
      rw [show (⟨#[58, 32]⟩ : ByteArray) = ⟨[58, 32].toArray⟩ from rfl, show (⟨#[10]⟩ : ByteArray) = ⟨[10].toArray⟩ from rfl, bt_app, bt_app, bt_app]
      rfl
    have hrl : (rowF k i).length ≤ 40 ∧ 1 ≤ (rowF k i).length := by
      unfold rowF
      simp only [List.length_append, List.length_cons, List.length_nil]
      omega
    have hsz : (⟨(Lib.itoa (k : Int)).toArray⟩ ++ ⟨#[58, 32]⟩ ++ ⟨(textF i).toArray⟩ ++ ⟨#[10]⟩ : ByteArray).size = (rowF k i).length := by rw [hsr]; exact bt_size _
    have hwr := writeC b3 u ao n cap cs (⟨(Lib.itoa (k : Int)).toArray⟩ ++ ⟨#[58, 32]⟩ ++ ⟨(textF i).toArray⟩ ++ ⟨#[10]⟩) (by rw [hsz]; omega)
    refine dx [0, 3, 1, 2, 4, 5, 6, 7] [3] [2, 1] ?_
    refine rr ?_
    refine cld (hit) ?_
    intro _ _
    try simp only [List.cons_append, List.nil_append, List.append_nil]
    refine rr ?_
    refine cld (htx) ?_
    intro _ _
    try simp only [List.cons_append, List.nil_append, List.append_nil]
    refine rr ?_
    refine cld (hwr) ?_
    intro z _
    try simp only [List.cons_append, List.nil_append, List.append_nil]
    refine rr ?_
    refine ro hK1 (k + 1, true, z.1, n + (⟨(Lib.itoa (k : Int)).toArray⟩ ++ ⟨#[58, 32]⟩ ++ ⟨(textF i).toArray⟩ ++ ⟨#[10]⟩ : ByteArray).size, z.2, cs ++ bytC (⟨(Lib.itoa (k : Int)).toArray⟩ ++ ⟨#[58, 32]⟩ ++ ⟨(textF i).toArray⟩ ++ ⟨#[10]⟩ : ByteArray), bs ++ rowF k i) ⟨by dsimp only; omega, by dsimp only; rw [hsz]; omega, fun h => absurd h (by dsimp only; omega), ?_, ?_, ?_, ?_⟩
    · dsimp only; rw [hsz, List.length_append, hn]
    · dsimp only; rw [hsz]; omega
    · dsimp only; rw [hsr, hcs, bytC_bs, bsC_app]
    · dsimp only; rw [hspec, List.append_assoc]
  · obtain rfl : k = l.length := by omega
    rw [List.drop_length] at hspec
    have hspec2 : listF 0 l = bs := by rw [hspec]; simp [listF]
    rw [hspec2]
    by_cases h0 : l.length = 0
    · obtain ⟨hao, hn0⟩ := hk0 h0
      subst hao
      subst hn0
      have hb0 : bs = [] := List.length_eq_zero_iff.1 hn.symm
      subst hb0
      refine rr ?_
      refine cl (string0C b3 u cap) ?_
      intro _ _
      try simp only [List.cons_append, List.nil_append, List.append_nil]
      refine rr ?_
      exact en () trivial
    · have hb0 : bs ≠ [] := by intro h; rw [h] at hn; simp at hn; omega
      refine w_use (fun w hw => (hw.pick 1 rfl).row_some (by first | omega | decide | (simp; done) | (simp <;> omega))) ?_
      rintro ⟨g1, rfl⟩
      subst hn
      subst hcs
      refine rr ?_
      refine cl (stringC b3 u g1 cap bs hb0) ?_
      intro _ _
      try simp only [List.cons_append, List.nil_append, List.append_nil]
      refine rr ?_
      exact en () trivial
end Go.Proofs.YtkajfjmplaobbaaDoor
namespace Go.Proofs.YtkajfjmplaobbaaDoor
open Go Go.Sx Go.Sx.Chunk
set_option linter.unusedVariables false
set_option linter.unusedSimpArgs false

theorem dec_big {m : Nat} (h : ¬ m < 10) : Lib.decDigits m = Lib.decDigits (m / 10) ++ [UInt8.ofNat (48 + m % 10)] := by rw [Lib.decDigits, dif_neg h]
theorem itoa_nat (m : Nat) : Lib.itoa (m : Int) = Lib.decDigits m := by unfold Lib.itoa; rw [if_neg (by omega)]; simp
theorem itoa_neg {n : Int} (h : n < 0) : Lib.itoa n = 45 :: Lib.itoa (-n) := by
  have e : Lib.itoa (-n) = Lib.decDigits n.natAbs := by
    have := itoa_nat n.natAbs
    rw [← this]
    congr 1
    omega
  rw [e]
  unfold Lib.itoa
  rw [if_pos h]
theorem dec_one {m : Nat} (h : m < 10) : Lib.decDigits m = [UInt8.ofNat (48 + m)] := Lib.decDigits_one h
theorem dgt_cell (m : Nat) : ([.int .u8 (48 + (m : Int) % 10)] : List Value) = bytC ⟨[UInt8.ofNat (48 + m % 10)].toArray⟩ ++ [] := by
  have h : (UInt8.ofNat (48 + m % 10)).toNat = 48 + m % 10 := by
    rw [UInt8.toNat_ofNat']
    omega
  unfold bytC
  simp only [List.map_cons, List.map_nil, List.append_nil, h]
  congr 2
set_option maxHeartbeats 1000000 in
theorem digtN : ∀ (N m : Nat), m < N → m < 1000000 → FnC (α := Unit) Tryd.prog 15 [.int .i64 (m : Int)] [] [] (fun _ => .string ⟨(Lib.decDigits m).toArray⟩) (fun _ => []) (fun _ => True)
  | 0, m, h, _ => absurd h (by omega)
  | N + 1, m, h, hb => by
    have hdc := dgt_cell m
    by_cases h9 : m < 10
    · rw [dec_one h9]
      rw [show m % 10 = m by omega] at hdc
      refine fn_intro Tryd.func15 Tryd.ntmps15 rfl rfl rfl (fun w0 => ?_)
      try simp only [List.cons_append, List.nil_append, List.append_nil]
      refine rr ?_
      intro b _
      refine rr ?_
      exact en () trivial
    · have ih := digtN N (m / 10) (by omega) (by omega)
      rw [show ((m / 10 : Nat) : Int) = (m : Int) / 10 by omega] at ih
      rw [dec_big h9]
      have hil := dig_len (m / 10) (by omega)
      have hil2 := bt_size (Lib.decDigits (m / 10))
      have hil3 := bt_size [UInt8.ofNat (48 + m % 10)]
      rw [List.length_singleton] at hil3
      refine fn_intro Tryd.func15 Tryd.ntmps15 rfl rfl rfl (fun w0 => ?_)
      try simp only [List.cons_append, List.nil_append, List.append_nil]
      refine rr ?_
      intro b _
      refine rr ?_
      refine cl (ih) ?_
      intro _ _
      try simp only [List.cons_append, List.nil_append, List.append_nil]
      refine rr ?_
      refine en () trivial (hv := ?_)
      simp only [packR, bt_app]
theorem digC (n : Int) (h0 : -32768 ≤ n) (h1 : n ≤ 32767) : FnC (α := Unit) Tryd.prog 15 [.int .i64 n] [] [] (fun _ => .string ⟨(Lib.itoa n).toArray⟩) (fun _ => []) (fun _ => True) := by
  have hp : ∀ k : Int, 0 ≤ k → k ≤ 32768 → FnC (α := Unit) Tryd.prog 15 [.int .i64 k] [] [] (fun _ => .string ⟨(Lib.itoa k).toArray⟩) (fun _ => []) (fun _ => True) := fun k hk hk2 => by
    have := digtN (k.toNat + 1) k.toNat (by omega) (by omega)
    rw [← itoa_nat, show ((k.toNat : Nat) : Int) = k by omega] at this
    exact this
  by_cases h : n < 0
  · rw [itoa_neg h]
    have hc := hp (-n) (by omega) (by omega)
    have hil2 := bt_size (Lib.itoa (-n))
    have hil : (Lib.itoa (-n)).length ≤ 7 := by
      unfold Lib.itoa
      rw [if_neg (by omega)]
      have := dig_len (-n).toNat (by omega)
      omega
    refine fn_intro Tryd.func15 Tryd.ntmps15 rfl rfl rfl (fun w0 => ?_)
    try simp only [List.cons_append, List.nil_append, List.append_nil]
    refine rr ?_
    refine cl (hc) ?_
    intro _ _
    try simp only [List.cons_append, List.nil_append, List.append_nil]
    refine rr ?_
    refine en () trivial (hv := ?_)
    rw [show (⟨#[45]⟩ : ByteArray) = ⟨[45].toArray⟩ from rfl]
    simp only [packR, bt_app]
    rfl
  · exact hp n (by omega) (by omega)
theorem regTC (n : Int) (h0 : -32768 ≤ n) (h1 : n ≤ 32767) : FnC (α := Unit) Tryd.prog 30 [.int .i64 n] [] [] (fun _ => .string ⟨(114 :: Lib.itoa n).toArray⟩) (fun _ => []) (fun _ => True) := by
  have hc := digC n h0 h1
  have hil := itoa_len n h0 h1
  have hi2 := bt_size (Lib.itoa n)
  refine fn_intro Tryd.func30 Tryd.ntmps30 rfl rfl rfl (fun w0 => ?_)
  try simp only [List.cons_append, List.nil_append, List.append_nil]
  refine rr ?_
  refine cl (hc) ?_
  intro _ _
  try simp only [List.cons_append, List.nil_append, List.append_nil]
  refine rr ?_
  refine en () trivial (hv := ?_)
  rw [show (⟨#[114]⟩ : ByteArray) = ⟨[114].toArray⟩ from rfl]
  simp only [packR, bt_app]
  rfl
end Go.Proofs.YtkajfjmplaobbaaDoor
namespace Go.Proofs.YtkajfjmplaobbaaDoor
open Go Go.Sx Go.Sx.Chunk
set_option linter.unusedVariables false
set_option linter.unusedSimpArgs false

theorem fo1 : ∀ k : Fin 21, 1 ≤ k.val → k.val ≤ 9 → foL.getD k.val [] = [97, 98, 99] := by decide
theorem fo2 : ∀ k : Fin 21, 10 ≤ k.val → k.val ≤ 16 → k.val ≠ 11 → foL.getD k.val [] = [97, 98, 105] := by decide
theorem fo3 : ∀ k : Fin 21, k.val = 11 → foL.getD k.val [] = [97, 105] := by decide
theorem fo4 : ∀ k : Fin 21, k.val = 17 ∨ k.val = 18 ∨ k.val = 20 → foL.getD k.val [] = [105] := by decide
theorem fo5 : ∀ k : Fin 21, k.val = 19 → foL.getD k.val [] = [97] := by decide
theorem fo0 : ∀ k : Fin 21, k.val = 0 → foL.getD k.val [] = [45] := by decide
def rg (n : Int) : List UInt8 := 114 :: Lib.itoa n
section
variable {i : In} (hg : goodI i = true)
include hg
theorem tx0 (h : i.op = 0) : textF i = nameOf i := by
  have hf : formF i = [45] := fo0 ⟨i.op.toNat, by omega⟩ (by dsimp only; omega)
  unfold textF
  rw [if_neg (by rw [hg]; decide), hf]
  rfl
theorem tx1 (h1 : 1 ≤ i.op) (h2 : i.op ≤ 9) : textF i = nameOf i ++ [32] ++ rg i.a ++ [44] ++ rg i.b ++ [44] ++ rg i.c := by
  have hf : formF i = [97, 98, 99] := fo1 ⟨i.op.toNat, by omega⟩ (by dsimp only; omega) (by dsimp only; omega)
  unfold textF
  rw [if_neg (by rw [hg]; decide), hf, if_neg (by intro h; cases h)]
  show nameOf i ++ [32] ++ Lib.join [rg i.a, rg i.b, rg i.c] [44] = _
  rw [Lib.join_cons]
  simp [Lib.joinTail]
theorem tx2 (h1 : 10 ≤ i.op) (h2 : i.op ≤ 16) (h3 : i.op ≠ 11) : textF i = nameOf i ++ [32] ++ rg i.a ++ [44] ++ rg i.b ++ [44] ++ Lib.itoa i.imm := by
  have hf : formF i = [97, 98, 105] := fo2 ⟨i.op.toNat, by omega⟩ (by dsimp only; omega) (by dsimp only; omega) (by dsimp only; omega)
  unfold textF
  rw [if_neg (by rw [hg]; decide), hf, if_neg (by intro h; cases h)]
  show nameOf i ++ [32] ++ Lib.join [rg i.a, rg i.b, Lib.itoa i.imm] [44] = _
  rw [Lib.join_cons]
  simp [Lib.joinTail]
theorem tx3 (h : i.op = 11) : textF i = nameOf i ++ [32] ++ rg i.a ++ [44] ++ Lib.itoa i.imm := by
  have hf : formF i = [97, 105] := fo3 ⟨i.op.toNat, by omega⟩ (by dsimp only; omega)
  unfold textF
  rw [if_neg (by rw [hg]; decide), hf, if_neg (by intro h; cases h)]
  show nameOf i ++ [32] ++ Lib.join [rg i.a, Lib.itoa i.imm] [44] = _
  rw [Lib.join_cons]
  simp [Lib.joinTail]
theorem tx4 (h : i.op = 17 ∨ i.op = 18 ∨ i.op = 20) : textF i = nameOf i ++ [32] ++ Lib.itoa i.imm := by
  have hf : formF i = [105] := fo4 ⟨i.op.toNat, by omega⟩ (by dsimp only; omega)
  unfold textF
  rw [if_neg (by rw [hg]; decide), hf, if_neg (by intro h; cases h)]
  show nameOf i ++ [32] ++ Lib.join [Lib.itoa i.imm] [44] = _
  rw [Lib.join_one]
theorem tx5 (h : i.op = 19) : textF i = nameOf i ++ [32] ++ rg i.a := by
  have hf : formF i = [97] := fo5 ⟨i.op.toNat, by omega⟩ (by dsimp only; omega)
  unfold textF
  rw [if_neg (by rw [hg]; decide), hf, if_neg (by intro h; cases h)]
  show nameOf i ++ [32] ++ Lib.join [rg i.a] [44] = _
  rw [Lib.join_one]
end
theorem rg_len (n : Int) (h0 : -32768 ≤ n) (h1 : n ≤ 32767) : (rg n).length ≤ 7 := by
  have := itoa_len n h0 h1
  unfold rg
  simp
  omega
set_option maxHeartbeats 8000000 in
theorem refTextC (i : In) (hg : goodI i = true) : FnC (α := Unit) Tryd.prog 13 [inG i] [] [] (fun _ => .string ⟨(textF i).toArray⟩) (fun _ => []) (fun _ => True) := by
  obtain ⟨ho1, ho2, a1, a2, b1, b2, c1, c2, i1, i2, _⟩ := good_parts hg
  have hol : i.op.toNat < 21 := by omega
  have hna : ([.string ⟨#[110, 111, 112]⟩, .string ⟨#[97, 100, 100]⟩, .string ⟨#[115, 117, 98]⟩, .string ⟨#[109, 117, 108]⟩, .string ⟨#[100, 105, 118]⟩, .string ⟨#[109, 111, 100]⟩, .string ⟨#[97, 110, 100]⟩, .string ⟨#[111, 114]⟩, .string ⟨#[115, 108, 116]⟩, .string ⟨#[115, 101, 113]⟩, .string ⟨#[97, 100, 100, 105]⟩, .string ⟨#[108, 117, 105]⟩, .string ⟨#[108, 119]⟩, .string ⟨#[115, 119]⟩, .string ⟨#[99, 104, 101, 99, 107]⟩, .string ⟨#[98, 101, 113]⟩, .string ⟨#[98, 110, 101]⟩, .string ⟨#[106, 109, 112]⟩, .string ⟨#[106, 97, 108]⟩, .string ⟨#[106, 114]⟩, .string ⟨#[115, 121, 115]⟩] : List Value)[i.op.toNat * 1]? = some (.string ⟨(nameOf i).toArray⟩) := by
    show (nmL.map fun l => Value.string ⟨l.toArray⟩)[i.op.toNat * 1]? = _
    rw [List.getElem?_map, Nat.mul_one, name_at hol]; rfl
  rw [← nth_eq, ← Nat.zero_add (i.op.toNat * 1)] at hna
  have ra := regTC i.a (by omega) (by omega)
  have rb := regTC i.b (by omega) (by omega)
  have rc := regTC i.c (by omega) (by omega)
  have di := digC i.imm i1 i2
  have la := rg_len i.a (by omega) (by omega)
  have lb := rg_len i.b (by omega) (by omega)
  have lc := rg_len i.c (by omega) (by omega)
  have li := itoa_len i.imm i1 i2
  have ln := name_le i
  have t0 := tx0 hg
  have t1 := tx1 hg
  have t2 := tx2 hg
  have t3 := tx3 hg
  have t4 := tx4 hg
  have t5 := tx5 hg
  change FnC _ _ _ _ _ (fun _ => .string ⟨(rg i.a).toArray⟩) _ _ at ra
  change FnC _ _ _ _ _ (fun _ => .string ⟨(rg i.b).toArray⟩) _ _ at rb
  change FnC _ _ _ _ _ (fun _ => .string ⟨(rg i.c).toArray⟩) _ _ at rc
  have e32 : (⟨#[32]⟩ : ByteArray) = ⟨[32].toArray⟩ := rfl
  have e44 : (⟨#[44]⟩ : ByteArray) = ⟨[44].toArray⟩ := rfl
  generalize nameOf i = nm at *
  generalize rg i.a = ga at *
  generalize rg i.b = gb at *
  generalize rg i.c = gc at *
  generalize Lib.itoa i.imm = gi at *
  have sa := bt_size ga
  have sb := bt_size gb
  have sc := bt_size gc
  have si := bt_size gi
  have sn := bt_size nm
  generalize textF i = tx at *
  clear hg
  unfold inG
  by_cases h0 : i.op = 0
  · rw [t0 h0]
    refine fn_intro Tryd.func13 Tryd.ntmps13 rfl rfl rfl (fun w0 => ?_)
    try simp only [List.cons_append, List.nil_append, List.append_nil]
    refine rr ?_
    intro b1 _
    refine rr ?_
    intro b2 _
    refine rr ?_
    exact en () trivial
  by_cases h1 : i.op ≤ 9
  · rw [t1 (by omega) h1]
    refine fn_intro Tryd.func13 Tryd.ntmps13 rfl rfl rfl (fun w0 => ?_)
    try simp only [List.cons_append, List.nil_append, List.append_nil]
    refine rr ?_
    intro b1 _
    refine rr ?_
    intro b2 _
    refine rr ?_
    refine dx [0, 1, 2, 3, 7, 8, 12, 13, 4, 5, 6, 9, 10, 11, 14, 15, 16] [3, 8, 13] [] ?_
    refine rr ?_
    refine cld (ra) ?_
    intro _ _
    try simp only [List.cons_append, List.nil_append, List.append_nil]
    refine rr ?_
    refine cld (rb) ?_
    intro _ _
    try simp only [List.cons_append, List.nil_append, List.append_nil]
    refine rr ?_
    refine cld (rc) ?_
    intro _ _
    try simp only [List.cons_append, List.nil_append, List.append_nil]
    refine rr ?_
    refine en () trivial (hv := ?_)
    rw [e32, e44]
    simp only [packR, bt_app]
  by_cases h2 : i.op = 11
  · rw [t3 h2]
    refine fn_intro Tryd.func13 Tryd.ntmps13 rfl rfl rfl (fun w0 => ?_)
    try simp only [List.cons_append, List.nil_append, List.append_nil]
    refine rr ?_
    intro b1 _
    refine rr ?_
    intro b2 _
    refine rr ?_
    refine dx [0, 1, 2, 3, 7, 8, 4, 5, 6, 9, 10, 11] [3, 8] [] ?_
    refine rr ?_
    refine cld (ra) ?_
    intro _ _
    try simp only [List.cons_append, List.nil_append, List.append_nil]
    refine rr ?_
    refine cld (di) ?_
    intro _ _
    try simp only [List.cons_append, List.nil_append, List.append_nil]
    refine rr ?_
    refine en () trivial (hv := ?_)
    rw [e32, e44]
    simp only [packR, bt_app]
  by_cases h3 : i.op ≤ 16
  · rw [t2 (by omega) h3 h2]
    refine fn_intro Tryd.func13 Tryd.ntmps13 rfl rfl rfl (fun w0 => ?_)
    try simp only [List.cons_append, List.nil_append, List.append_nil]
    refine rr ?_
    intro b1 _
    refine rr ?_
    intro b2 _
    refine rr ?_
    refine dx [0, 1, 2, 3, 7, 8, 12, 13, 4, 5, 6, 9, 10, 11, 14, 15, 16] [3, 8, 13] [] ?_
    refine rr ?_
    refine cld (ra) ?_
    intro _ _
    try simp only [List.cons_append, List.nil_append, List.append_nil]
    refine rr ?_
    refine cld (rb) ?_
    intro _ _
    try simp only [List.cons_append, List.nil_append, List.append_nil]
    refine rr ?_
    refine cld (di) ?_
    intro _ _
    try simp only [List.cons_append, List.nil_append, List.append_nil]
    refine rr ?_
    refine en () trivial (hv := ?_)
    rw [e32, e44]
    simp only [packR, bt_app]
  by_cases h4 : i.op = 19
  · rw [t5 h4]
    refine fn_intro Tryd.func13 Tryd.ntmps13 rfl rfl rfl (fun w0 => ?_)
    try simp only [List.cons_append, List.nil_append, List.append_nil]
    refine rr ?_
    intro b1 _
    refine rr ?_
    intro b2 _
    refine rr ?_
    refine cl (ra) ?_
    intro _ _
    try simp only [List.cons_append, List.nil_append, List.append_nil]
    refine rr ?_
    refine en () trivial (hv := ?_)
    rw [e32]
    simp only [packR, bt_app]
  · rw [t4 (by omega)]
    refine fn_intro Tryd.func13 Tryd.ntmps13 rfl rfl rfl (fun w0 => ?_)
    try simp only [List.cons_append, List.nil_append, List.append_nil]
    refine rr ?_
    intro b1 _
    refine rr ?_
    intro b2 _
    refine rr ?_
    refine cl (di) ?_
    intro _ _
    try simp only [List.cons_append, List.nil_append, List.append_nil]
    refine rr ?_
    refine en () trivial (hv := ?_)
    rw [e32]
    simp only [packR, bt_app]
end Go.Proofs.YtkajfjmplaobbaaDoor
namespace Go.Proofs.YtkajfjmplaobbaaDoor
open Go Go.Sx Go.Sx.Chunk
set_option linter.unusedVariables false
set_option linter.unusedSimpArgs false

def dgB (c : UInt8) : Bool := decide (48 ≤ c.toNat ∧ c.toNat ≤ 57)
/-- At most so many digits: the number, and how many. -/
def runF : Nat → Int → List UInt8 → Int × Nat
  | k + 1, v, c :: l => if dgB c then ((runF k (10 * v + ((c.toNat : Int) - 48)) l).1, (runF k (10 * v + ((c.toNat : Int) - 48)) l).2 + 1) else (v, 0)
  | _, v, _ => (v, 0)
def numL (l : List UInt8) : Option (Int × Nat) :=
  if l.head? = some 45 then (if (runF 6 0 l.tail).2 = 0 then none else some (-(runF 6 0 l.tail).1, (runF 6 0 l.tail).2 + 1))
  else (if (runF 6 0 l).2 = 0 then none else some ((runF 6 0 l).1, (runF 6 0 l).2))
def numV (at_ : Nat) : Option (Int × Nat) → Value
  | none => .tuple #[.int .i64 0, .int .i64 (-1)]
  | some (v, k) => .tuple #[.int .i64 v, .int .i64 ((at_ + k : Nat) : Int)]
theorem runF_le : ∀ (k : Nat) (v : Int) (l : List UInt8), (runF k v l).2 ≤ k ∧ (runF k v l).2 ≤ l.length
  | 0, v, l => by simp [runF]
  | k + 1, v, [] => by simp [runF]
  | k + 1, v, c :: l => by
    unfold runF
    split
    · have := runF_le k (10 * v + ((c.toNat : Int) - 48)) l
      simp only [List.length_cons]
      omega
    · simp
theorem run_nil (k : Nat) (v : Int) : runF k v [] = (v, 0) := by cases k <;> rfl
theorem run_yes {k : Nat} {v : Int} {l : List UInt8} {p : Nat} {c : UInt8} (h : l[p]? = some c) (hd : dgB c = true) : runF (k + 1) v (l.drop p) = ((runF k (10 * v + ((c.toNat : Int) - 48)) (l.drop (p + 1))).1, (runF k (10 * v + ((c.toNat : Int) - 48)) (l.drop (p + 1))).2 + 1) := by
  obtain ⟨h1, h2⟩ := List.getElem?_eq_some_iff.1 h
  rw [List.drop_eq_getElem_cons h1, h2]
  show (if dgB c then _ else _) = _
  rw [if_pos hd]
theorem run_no {k : Nat} {v : Int} {l : List UInt8} {p : Nat} {c : UInt8} (h : l[p]? = some c) (hd : dgB c = false) : runF k v (l.drop p) = (v, 0) := by
  obtain ⟨h1, h2⟩ := List.getElem?_eq_some_iff.1 h
  rw [List.drop_eq_getElem_cons h1, h2]
  cases k with
  | zero => rfl
  | succ k =>
    show (if dgB c then _ else _) = _
    rw [if_neg (by rw [hd]; decide)]
theorem pow6 {j : Nat} (h : j < 6) {v : Int} (h0 : 0 ≤ v) (hv : v < 10 ^ j) {d : Int} (hd : 0 ≤ d ∧ d ≤ 9) : 0 ≤ v ∧ v < 100000 ∧ 0 ≤ 10 * v + d ∧ 10 * v + d < 10 ^ (j + 1) := by
  have e : (10 : Int) ^ (j + 1) = 10 * 10 ^ j := by rw [Int.pow_succ]; omega
  have h5 : (10 : Int) ^ j ≤ 100000 := by
    have : j = 0 ∨ j = 1 ∨ j = 2 ∨ j = 3 ∨ j = 4 ∨ j = 5 := by omega
    rcases this with rfl | rfl | rfl | rfl | rfl | rfl <;> decide
  generalize (10 : Int) ^ j = P at *
  omega
theorem pow6' {j : Nat} (h : j ≤ 6) {v : Int} (hv : v < 10 ^ j) : v < 1000000 := by
  have h5 : (10 : Int) ^ j ≤ 1000000 := by
    have : j = 0 ∨ j = 1 ∨ j = 2 ∨ j = 3 ∨ j = 4 ∨ j = 5 ∨ j = 6 := by omega
    rcases this with rfl | rfl | rfl | rfl | rfl | rfl | rfl <;> decide
  omega
def numA (l : List UInt8) (p : Nat) (minus : Bool) : Option (Int × Nat) :=
  if (runF 6 0 (l.drop (p + if minus then 1 else 0))).2 = 0 then none else some ((if minus then -1 else 1) * (runF 6 0 (l.drop (p + if minus then 1 else 0))).1, (runF 6 0 (l.drop (p + if minus then 1 else 0))).2 + if minus then 1 else 0)
theorem numA_eq (l : List UInt8) (p : Nat) : numL (l.drop p) = numA l p (decide (l[p]? = some 45)) := by
  unfold numL numA
  rw [List.head?_drop]
  by_cases h : l[p]? = some 45
  · rw [if_pos h, decide_eq_true h]
    simp only [if_true, List.tail_drop]
    split
    · rfl
    · simp
  · rw [if_neg h, decide_eq_false h]
    simp
theorem sat {s : ByteArray} {i : Nat} {c : UInt8} (h : s.data.toList[i]? = some c) : s[i]? = some c := bt_at h
set_option maxHeartbeats 4000000 in
theorem numTC (s : ByteArray) (p : Nat) (hp : p < s.size) (hs : s.size ≤ 1000) : FnC (α := Unit) Tryd.prog 31 [.string s, .int .i64 (p : Int)] [] [] (fun _ => numV p (numL (s.data.toList.drop p))) (fun _ => []) (fun _ => True) := by
  have hsl : s.data.toList.length = s.size := by simp
  rw [numA_eq]
  obtain ⟨c0, hc00⟩ := some_at (l := s.data.toList) (k := p) (by rw [hsl]; exact hp)
  have hc0' : s[((p : Nat) : Int).toNat]? = some c0 := sat hc00
  by_cases hm : c0 = 45
  · subst hm
    rw [decide_eq_true hc00]
    unfold numA
    simp only [if_true]
    refine fn_intro Tryd.func31 Tryd.ntmps31 rfl rfl rfl (fun w0 => ?_)
    try simp only [List.cons_append, List.nil_append, List.append_nil]
    refine rr ?_
    refine lo [0, 6, 8] (fun x : Nat × Int => [(1, .int .i64 (((p + 1) + x.1 : Nat) : Int)), (7, .int .i64 x.2)]) (fun x => []) (fun x => x.1 ≤ 6 ∧ (p + 1) + x.1 ≤ s.size ∧ 0 ≤ x.2 ∧ x.2 < 10 ^ x.1 ∧ runF 6 0 (s.data.toList.drop (p + 1)) = ((runF (6 - x.1) x.2 (s.data.toList.drop ((p + 1) + x.1))).1, (runF (6 - x.1) x.2 (s.data.toList.drop ((p + 1) + x.1))).2 + x.1)) (fun x => 6 - x.1) (0, 0) ⟨by decide, by dsimp only; omega, by decide, by decide, rfl⟩ ?_
    rintro ⟨j, v⟩ ⟨hj, hjl, hv0, hv1, hrun⟩ K1 hK1
    dsimp only at hj hjl hv0 hv1 hrun ⊢
    have hv6 := pow6' hj hv1
    by_cases hin : (p + 1) + j < s.size
    · obtain ⟨c, hc0⟩ := some_at (l := s.data.toList) (k := (p + 1) + j) (by rw [hsl]; exact hin)
      have hc : s[(((p + 1) + j : Nat) : Int).toNat]? = some c := sat hc0
      by_cases hd : dgB c = true
      · have hd' : 48 ≤ c.toNat ∧ c.toNat ≤ 57 := by unfold dgB at hd; simpa using hd
        by_cases hj6 : j < 6
        · obtain ⟨p1, p2, p3, p4⟩ := pow6 hj6 hv0 hv1 (d := (c.toNat : Int) - 48) (by omega)
          have hst := run_yes (k := 6 - (j + 1)) (v := v) hc0 hd
          rw [show 6 - (j + 1) + 1 = 6 - j by omega] at hst
          rw [hst] at hrun
          refine rr ?_
          exact ro hK1 (j + 1, 10 * v + ((c.toNat : Int) - 48)) ⟨by dsimp only; omega, by dsimp only; omega, p3, p4, by rw [hrun]; exact Prod.ext rfl ((by intro a; omega : ∀ a : Nat, a + 1 + j = a + (j + 1)) _)⟩
        · have hj7 : j = 6 := by omega
          have hz : runF (6 - j) v (s.data.toList.drop ((p + 1) + j)) = (v, 0) := by rw [show 6 - j = 0 by omega]; rfl
          rw [hz] at hrun
          dsimp only at hrun
          rw [Nat.zero_add] at hrun
          rw [hrun]
          dsimp only
          by_cases hj0 : j = 0
          · subst hj0
            rw [if_pos rfl]
            first | (exfalso; omega) | (refine rr ?_; exact en () trivial)
          · rw [if_neg hj0]
            refine rr ?_
            refine en () trivial (hv := ?_)
            simp [packR, numV]
            try omega
      · have hd2 : dgB c = false := by simpa using hd
        have hd' : c.toNat < 48 ∨ 57 < c.toNat := by unfold dgB at hd2; simp at hd2; omega
        rw [run_no hc0 hd2] at hrun
        dsimp only at hrun
        rw [Nat.zero_add] at hrun
        rw [hrun]
        rcases hd' with hd' | hd'
        · skip
          dsimp only
          by_cases hj0 : j = 0
          · subst hj0
            rw [if_pos rfl]
            first | (exfalso; omega) | (refine rr ?_; exact en () trivial)
          · rw [if_neg hj0]
            refine rr ?_
            refine en () trivial (hv := ?_)
            simp [packR, numV]
            try omega
        · have hd3 : 48 ≤ c.toNat := by omega
          dsimp only
          by_cases hj0 : j = 0
          · subst hj0
            rw [if_pos rfl]
            first | (exfalso; omega) | (refine rr ?_; exact en () trivial)
          · rw [if_neg hj0]
            refine rr ?_
            refine en () trivial (hv := ?_)
            simp [packR, numV]
            try omega
    · have hend : (p + 1) + j = s.size := by omega
      rw [show s.data.toList.drop ((p + 1) + j) = [] from List.drop_eq_nil_of_le (by omega), run_nil] at hrun
      dsimp only at hrun
      rw [Nat.zero_add] at hrun
      rw [hrun]
      dsimp only
      by_cases hj0 : j = 0
      · subst hj0
        rw [if_pos rfl]
        first | (exfalso; omega) | (refine rr ?_; exact en () trivial)
      · rw [if_neg hj0]
        refine rr ?_
        refine en () trivial (hv := ?_)
        simp [packR, numV]
        try omega
  · rw [decide_eq_false (by rw [hc00]; simpa using hm)]
    unfold numA
    simp only [if_false, Bool.false_eq_true, Nat.add_zero]
    have hm2 : c0.toNat ≠ 45 := fun h => hm (UInt8.toNat_inj.1 h)
    refine fn_intro Tryd.func31 Tryd.ntmps31 rfl rfl rfl (fun w0 => ?_)
    try simp only [List.cons_append, List.nil_append, List.append_nil]
    refine rr ?_
    refine lo [0, 6, 8] (fun x : Nat × Int => [(1, .int .i64 ((p + x.1 : Nat) : Int)), (7, .int .i64 x.2)]) (fun x => []) (fun x => x.1 ≤ 6 ∧ p + x.1 ≤ s.size ∧ 0 ≤ x.2 ∧ x.2 < 10 ^ x.1 ∧ runF 6 0 (s.data.toList.drop p) = ((runF (6 - x.1) x.2 (s.data.toList.drop (p + x.1))).1, (runF (6 - x.1) x.2 (s.data.toList.drop (p + x.1))).2 + x.1)) (fun x => 6 - x.1) (0, 0) ⟨by decide, by dsimp only; omega, by decide, by decide, rfl⟩ ?_
    rintro ⟨j, v⟩ ⟨hj, hjl, hv0, hv1, hrun⟩ K1 hK1
    dsimp only at hj hjl hv0 hv1 hrun ⊢
    have hv6 := pow6' hj hv1
    by_cases hin : p + j < s.size
    · obtain ⟨c, hc0⟩ := some_at (l := s.data.toList) (k := p + j) (by rw [hsl]; exact hin)
      have hc : s[((p + j : Nat) : Int).toNat]? = some c := sat hc0
      by_cases hd : dgB c = true
      · have hd' : 48 ≤ c.toNat ∧ c.toNat ≤ 57 := by unfold dgB at hd; simpa using hd
        by_cases hj6 : j < 6
        · obtain ⟨p1, p2, p3, p4⟩ := pow6 hj6 hv0 hv1 (d := (c.toNat : Int) - 48) (by omega)
          have hst := run_yes (k := 6 - (j + 1)) (v := v) hc0 hd
          rw [show 6 - (j + 1) + 1 = 6 - j by omega] at hst
          rw [hst] at hrun
          refine rr ?_
          exact ro hK1 (j + 1, 10 * v + ((c.toNat : Int) - 48)) ⟨by dsimp only; omega, by dsimp only; omega, p3, p4, by rw [hrun]; exact Prod.ext rfl ((by intro a; omega : ∀ a : Nat, a + 1 + j = a + (j + 1)) _)⟩
        · have hj7 : j = 6 := by omega
          have hz : runF (6 - j) v (s.data.toList.drop (p + j)) = (v, 0) := by rw [show 6 - j = 0 by omega]; rfl
          rw [hz] at hrun
          dsimp only at hrun
          rw [Nat.zero_add] at hrun
          rw [hrun]
          dsimp only
          by_cases hj0 : j = 0
          · subst hj0
            rw [if_pos rfl]
            first | (exfalso; omega) | (refine rr ?_; exact en () trivial)
          · rw [if_neg hj0]
            refine rr ?_
            refine en () trivial (hv := ?_)
            simp [packR, numV]
            try omega
      · have hd2 : dgB c = false := by simpa using hd
        have hd' : c.toNat < 48 ∨ 57 < c.toNat := by unfold dgB at hd2; simp at hd2; omega
        rw [run_no hc0 hd2] at hrun
        dsimp only at hrun
        rw [Nat.zero_add] at hrun
        rw [hrun]
        rcases hd' with hd' | hd'
        · skip
          dsimp only
          by_cases hj0 : j = 0
          · subst hj0
            rw [if_pos rfl]
            first | (exfalso; omega) | (refine rr ?_; exact en () trivial)
          · rw [if_neg hj0]
            refine rr ?_
            refine en () trivial (hv := ?_)
            simp [packR, numV]
            try omega
        · have hd3 : 48 ≤ c.toNat := by omega
          dsimp only
          by_cases hj0 : j = 0
          · subst hj0
            rw [if_pos rfl]
            first | (exfalso; omega) | (refine rr ?_; exact en () trivial)
          · rw [if_neg hj0]
            refine rr ?_
            refine en () trivial (hv := ?_)
            simp [packR, numV]
            try omega
    · have hend : p + j = s.size := by omega
      rw [show s.data.toList.drop (p + j) = [] from List.drop_eq_nil_of_le (by omega), run_nil] at hrun
      dsimp only at hrun
      rw [Nat.zero_add] at hrun
      rw [hrun]
      dsimp only
      by_cases hj0 : j = 0
      · subst hj0
        rw [if_pos rfl]
        first | (exfalso; omega) | (refine rr ?_; exact en () trivial)
      · rw [if_neg hj0]
        refine rr ?_
        refine en () trivial (hv := ?_)
        simp [packR, numV]
        try omega
end Go.Proofs.YtkajfjmplaobbaaDoor
namespace Go.Proofs.YtkajfjmplaobbaaDoor
open Go Go.Sx Go.Sx.Chunk
set_option linter.unusedVariables false
set_option linter.unusedSimpArgs false

/-- All numbers of a text, one behind the other; some bytes are passed over first. -/
def numsL : Nat → List UInt8 → List Int
  | _, [] => []
  | k + 1, _ :: l => numsL k l
  | 0, c :: l => match numL (c :: l) with
    | none => numsL 0 l
    | some (v, k) => v :: numsL (k - 1) l
theorem numsL_drop : ∀ (k : Nat) (l : List UInt8), numsL k l = numsL 0 (l.drop k)
  | 0, l => rfl
  | k + 1, [] => rfl
  | k + 1, _ :: l => by
    show numsL k l = _
    rw [numsL_drop k l]
    rfl
theorem nums_no {l : List UInt8} {p : Nat} (hp : p < l.length) (h : numL (l.drop p) = none) : numsL 0 (l.drop p) = numsL 0 (l.drop (p + 1)) := by
  rw [List.drop_eq_getElem_cons hp] at h ⊢
  show (match numL (l[p] :: l.drop (p + 1)) with | none => _ | some (v, k) => _) = _
  rw [h]
theorem nums_yes {l : List UInt8} {p : Nat} (hp : p < l.length) {v : Int} {k : Nat} (hk : 1 ≤ k) (h : numL (l.drop p) = some (v, k)) : numsL 0 (l.drop p) = v :: numsL 0 (l.drop (p + k)) := by
  rw [List.drop_eq_getElem_cons hp] at h ⊢
  show (match numL (l[p] :: l.drop (p + 1)) with | none => _ | some (v, k) => _) = _
  rw [h]
  show v :: numsL (k - 1) (l.drop (p + 1)) = _
  rw [numsL_drop, List.drop_drop, show p + 1 + (k - 1) = p + k by omega]
theorem numL_pos {l : List UInt8} {v : Int} {k : Nat} (h : numL l = some (v, k)) : 1 ≤ k ∧ k ≤ l.length := by
  unfold numL at h
  split at h
  · rename_i hh
    split at h
    · cases h
    · simp only [Option.some.injEq, Prod.mk.injEq] at h
      have := runF_le 6 0 l.tail
      rw [List.length_tail] at this
      have hl : 0 < l.length := by cases l with | nil => simp at hh | cons => simp
      omega
  · split at h
    · cases h
    · simp only [Option.some.injEq, Prod.mk.injEq] at h
      have := runF_le 6 0 l
      omega
def padF (l : List Int) : List Int := l ++ List.replicate (3 - l.length) 0
def candF (op a b c : Int) : List In := [⟨op, 0, 0, 0, 0⟩, ⟨op, a, b, c, 0⟩, ⟨op, a, b, 0, c⟩, ⟨op, a, 0, 0, b⟩, ⟨op, 0, 0, 0, a⟩, ⟨op, a, 0, 0, 0⟩]
def hitF (s : List UInt8) (i : In) : Bool := goodI i && decide (textF i = s)
def srchF (s : List UInt8) (a b c : Int) : Nat → Int → Option In
  | 0, _ => none
  | k + 1, op => match (candF op a b c).find? (hitF s) with
    | some i => some i
    | none => srchF s a b c k (op + 1)
def refF (s : List UInt8) : Option In :=
  srchF s ((padF (numsL 0 s)).getD 0 0) ((padF (numsL 0 s)).getD 1 0) ((padF (numsL 0 s)).getD 2 0) 21 0
def i64C (l : List Int) : List Value := l.map fun n => .int .i64 n
theorem padF_long {l : List Int} (h : 3 ≤ l.length) : padF l = l := by unfold padF; rw [show 3 - l.length = 0 by omega]; simp
theorem padF_snoc {l : List Int} (h : l.length < 3) : padF (l ++ [0]) = padF l := by
  unfold padF
  rw [List.length_append, List.length_singleton, show 3 - l.length = (3 - (l.length + 1)) + 1 by omega, List.replicate_succ, List.append_assoc]
  rfl
theorem find_step {l : List In} {p : In → Bool} {k : Nat} {e : In} (h : l[k]? = some e) (hp : p e = false) : (l.drop k).find? p = (l.drop (k + 1)).find? p := by
  obtain ⟨h1, h2⟩ := List.getElem?_eq_some_iff.1 h
  rw [List.drop_eq_getElem_cons h1, h2, List.find?_cons, hp]
theorem find_hit {l : List In} {p : In → Bool} {k : Nat} {e : In} (h : l[k]? = some e) (hp : p e = true) : (l.drop k).find? p = some e := by
  obtain ⟨h1, h2⟩ := List.getElem?_eq_some_iff.1 h
  rw [List.drop_eq_getElem_cons h1, h2, List.find?_cons, hp]
set_option maxHeartbeats 8000000 in
theorem refParseC (s : ByteArray) (hs : s.size ≤ 1000) : FnC (α := Unit) Tryd.prog 14 [.string s] [] [] (fun _ => parseV (refF s.data.toList)) (fun _ => []) (fun _ => True) := by
  have hsl : s.data.toList.length = s.size := by simp
  unfold refF
  generalize hN : numsL 0 s.data.toList = N
  refine fn_intro Tryd.func14 Tryd.ntmps14 rfl rfl rfl (fun w0 => ?_)
  try simp only [List.cons_append, List.nil_append, List.append_nil]
  refine rr ?_
  intro b2 _
  refine rr ?_
  refine w_turn (fun w hw => hw.row_nil 3 1) ?_
  refine lo [0, 2] (fun x : Nat × Option Addr × Nat × Nat × List Value × List Int => [(4, .slice x.2.1 x.2.2.1 x.2.2.2.1), (5, .int .i64 (x.1 : Int))]) (fun x => [(0, row x.2.1 x.2.2.2.1 3 1 x.2.2.1 x.2.2.2.2.1)])
    (fun x => x.1 ≤ s.size ∧ x.2.2.1 = x.2.2.2.2.2.length ∧ x.2.2.1 ≤ x.1 ∧ x.2.2.2.2.1 = i64C x.2.2.2.2.2 ∧ N = x.2.2.2.2.2 ++ numsL 0 (s.data.toList.drop x.1)) (fun x => s.size - x.1) (0, none, 0, 0, [], []) ⟨Nat.zero_le _, rfl, Nat.zero_le _, rfl, hN.symm⟩ ?_
  rintro ⟨p, ao, n, cap, cs, ns⟩ ⟨hp, hn, hnp, hcs, hspec⟩ K1 hK1
  dsimp only at hp hn hnp hcs hspec ⊢
  by_cases hlt : p < s.size
  · have hnum := numTC s p hlt hs
    cases hnl : numL (s.data.toList.drop p) with
    | none =>
      rw [hnl] at hnum
      unfold numV at hnum
      rw [nums_no (by omega) hnl] at hspec
      refine rr ?_
      refine cl (hnum) ?_
      intro _ _
      try simp only [List.cons_append, List.nil_append, List.append_nil]
      refine rr ?_
      exact ro hK1 (p + 1, ao, n, cap, cs, ns) ⟨by dsimp only; omega, hn, by dsimp only; omega, hcs, hspec⟩
    | some r =>
      obtain ⟨v, k⟩ := r
      obtain ⟨hk1, hk2⟩ := numL_pos hnl
      rw [List.length_drop] at hk2
      rw [hnl] at hnum
      unfold numV at hnum
      rw [nums_yes (by omega) hk1 hnl] at hspec
      refine rr ?_
      refine cl (hnum) ?_
      intro _ _
      try simp only [List.cons_append, List.nil_append, List.append_nil]
      refine rr ?_
      intro bb _
      refine rr ?_
      rintro ⟨za, zc⟩ ⟨zh, _⟩
      refine rr ?_
      exact ro hK1 (p + k, za, n + 1, zc, cs ++ [.int .i64 v], ns ++ [v]) ⟨by dsimp only; omega, by dsimp only; rw [hn]; simp, by dsimp only; omega, by dsimp only; rw [hcs]; simp [i64C], by dsimp only; rw [hspec]; simp⟩
  · obtain rfl : p = s.size := by omega
    rw [show s.data.toList.drop s.size = [] from List.drop_eq_nil_of_le (by omega)] at hspec
    have hspec2 : N = ns := by rw [hspec]; simp [numsL]
    clear hspec hN hK1
    refine rr ?_
    refine lo [0, 2] (fun x : Option Addr × Nat × Nat × List Value × List Int => [(4, .slice x.1 x.2.1 x.2.2.1)]) (fun x => [(0, row x.1 x.2.2.1 3 1 x.2.1 x.2.2.2.1)])
      (fun x => x.2.1 = x.2.2.2.2.length ∧ x.2.1 ≤ 1003 ∧ x.2.2.2.1 = i64C x.2.2.2.2 ∧ padF N = padF x.2.2.2.2) (fun x => 3 - x.2.1) (ao, n, cap, cs, ns) ⟨hn, by dsimp only; omega, hcs, by rw [hspec2]⟩ ?_
    clear hn hnp hcs hspec2
    rintro ⟨ao, n, cap, cs, ns⟩ ⟨hn, hn2, hcs, hspec⟩ K2 hK2
    dsimp only at hn hn2 hcs hspec ⊢
    by_cases hlt : n < 3
    · skip
      refine rr ?_
      intro bb _
      refine rr ?_
      rintro ⟨za, zc⟩ ⟨zh, _⟩
      refine rr ?_
      exact ro hK2 (za, n + 1, zc, cs ++ [.int .i64 0], ns ++ [0]) ⟨by dsimp only; rw [hn]; simp, by dsimp only; omega, by dsimp only; rw [hcs]; simp [i64C], by dsimp only; rw [padF_snoc (by omega)]; exact hspec⟩
    · rw [padF_long (l := ns) (by omega)] at hspec
      rw [hspec]
      clear hspec hK2
      obtain ⟨va, hva⟩ := some_at (l := ns) (k := 0) (by omega)
      obtain ⟨vb, hvb⟩ := some_at (l := ns) (k := 1) (by omega)
      obtain ⟨vc, hvc⟩ := some_at (l := ns) (k := 2) (by omega)
      have ga : ns.getD 0 0 = va := by simp [List.getD_eq_getElem?_getD, hva]
      have gb : ns.getD 1 0 = vb := by simp [List.getD_eq_getElem?_getD, hvb]
      have gc : ns.getD 2 0 = vc := by simp [List.getD_eq_getElem?_getD, hvc]
      rw [ga, gb, gc]
      have ca : cs[(0 : Int).toNat * 1]? = some (.int .i64 va) := by rw [hcs]; unfold i64C; rw [List.getElem?_map]; show (ns[0]?).map _ = _; rw [hva]; rfl
      have cb : cs[(1 : Int).toNat * 1]? = some (.int .i64 vb) := by rw [hcs]; unfold i64C; rw [List.getElem?_map]; show (ns[1]?).map _ = _; rw [hvb]; rfl
      have cc : cs[(2 : Int).toNat * 1]? = some (.int .i64 vc) := by rw [hcs]; unfold i64C; rw [List.getElem?_map]; show (ns[2]?).map _ = _; rw [hvc]; rfl
      clear ga gb gc hva hvb hvc hcs hn
      refine rr ?_
      refine lo [0, 2, 4] (fun x : Nat => [(8, .int .i64 (x : Int))]) (fun x => [])
        (fun x => x ≤ 21 ∧ srchF s.data.toList va vb vc 21 0 = srchF s.data.toList va vb vc (21 - x) (x : Int)) (fun x => 21 - x) 0 ⟨by decide, rfl⟩ ?_
      rintro op ⟨hop, hspec⟩ K3 hK3
      by_cases hlt2 : op < 21
      · have hst : srchF s.data.toList va vb vc (21 - op) (op : Int) = match (candF (op : Int) va vb vc).find? (hitF s.data.toList) with
            | some i => some i
            | none => srchF s.data.toList va vb vc (21 - (op + 1)) ((op : Int) + 1) := by
          rw [show 21 - op = (21 - (op + 1)) + 1 by omega]
          rfl
        have hspec := hspec.trans hst
        clear hst
        refine rr ?_
        refine dx [0, 1, 2, 3, 4, 5, 6, 7, 8, 9, 10, 11, 12, 13, 14, 15, 16, 17, 18, 19, 20, 21, 22, 23, 24, 25, 26, 27, 28, 29, 30, 31, 32, 33, 34, 35, 36, 37, 38, 39, 40, 41, 44, 42, 43] [5, 8, 11, 16, 19, 22, 27, 30, 35, 40] [] ?_
        refine rr ?_
        intro b82 _
        refine rr ?_
        refine w_turn (fun w hw => (hw.pick 0 rfl).row_of_blk (m := 6) (sz := 5) rfl (by decide)) ?_
        have hcl : insC (candF (op : Int) va vb vc) = [.int .i64 (op : Int), .int .i64 0, .int .i64 0, .int .i64 0, .int .i64 0, .int .i64 (op : Int), .int .i64 va, .int .i64 vb, .int .i64 vc, .int .i64 0, .int .i64 (op : Int), .int .i64 va, .int .i64 vb, .int .i64 0, .int .i64 vc, .int .i64 (op : Int), .int .i64 va, .int .i64 0, .int .i64 0, .int .i64 vb, .int .i64 (op : Int), .int .i64 0, .int .i64 0, .int .i64 0, .int .i64 va, .int .i64 (op : Int), .int .i64 va, .int .i64 0, .int .i64 0, .int .i64 0] := rfl
        rw [← hcl]
        have hcn : (candF (op : Int) va vb vc).length = 6 := rfl
        clear hcl
        generalize candF (op : Int) va vb vc = CL at *
        refine lo [0, 2, 4, 8, 82, 83] (fun x : Nat => [(84, .int .i64 (x : Int))]) (fun x => [])
          (fun x => x ≤ 6 ∧ CL.find? (hitF s.data.toList) = (CL.drop x).find? (hitF s.data.toList)) (fun x => 6 - x) 0 ⟨by decide, rfl⟩ ?_
        rintro j ⟨hj, hfind⟩ K4 hK4
        by_cases hlt3 : j < 6
        · obtain ⟨e, he⟩ := some_at (l := CL) (k := j) (by omega)
          have hall : ((insC CL).drop (0 + (j : Int).toNat * 5)).take 5 = [.int .i64 e.op, .int .i64 e.a, .int .i64 e.b, .int .i64 e.c, .int .i64 e.imm] := insC_all he _ (by omega)
          have hlen := insC_len CL
          have hrt := right02C e
          cases hg : goodI e with
          | false =>
            have hh : hitF s.data.toList e = false := by unfold hitF; rw [hg]; rfl
            rw [find_step he hh] at hfind
            rw [hg] at hrt
            unfold inG at hrt
            refine rr ?_
            intro b10 _
            refine rr ?_
            refine cl (hrt) ?_
            intro _ _
            try simp only [List.cons_append, List.nil_append, List.append_nil]
            refine rr ?_
            exact ro hK4 (j + 1) ⟨by omega, hfind⟩
          | true =>
            have htx := refTextC e hg
            rw [hg] at hrt
            unfold inG at hrt htx
            by_cases hq : textF e = s.data.toList
            · have hb : (⟨(textF e).toArray⟩ : ByteArray) = s := by rw [hq]
              have hh : hitF s.data.toList e = true := by unfold hitF; rw [hg, hq]; simp
              rw [find_hit he hh] at hfind
              rw [hfind] at hspec
              dsimp only at hspec
              rw [hb] at htx
              refine rr ?_
              intro b10 _
              refine rr ?_
              refine cl (hrt) ?_
              intro _ _
              try simp only [List.cons_append, List.nil_append, List.append_nil]
              refine rr ?_
              refine cl (htx) ?_
              intro _ _
              try simp only [List.cons_append, List.nil_append, List.append_nil]
              refine rr ?_
              rw [hspec]
              exact en () trivial
            · have hne : (⟨(textF e).toArray⟩ : ByteArray) ≠ s := by
                intro h
                exact hq (by rw [← h])
              have hh : hitF s.data.toList e = false := by unfold hitF; rw [hg]; simp [hq]
              rw [find_step he hh] at hfind
              have hb1 : decide ((⟨(textF e).toArray⟩ : ByteArray) = s) = false := by simp [hne]
              refine rr ?_
              intro b10 _
              refine rr ?_
              refine cl (hrt) ?_
              intro _ _
              try simp only [List.cons_append, List.nil_append, List.append_nil]
              refine rr ?_
              refine cl (htx) ?_
              intro _ _
              try simp only [List.cons_append, List.nil_append, List.append_nil]
              refine rr ?_
              exact ro hK4 (j + 1) ⟨by omega, hfind⟩
        · obtain rfl : j = 6 := by omega
          rw [show CL.drop 6 = [] from List.drop_eq_nil_of_le (by omega)] at hfind
          rw [hfind] at hspec
          dsimp only [List.find?_nil] at hspec
          refine rr ?_
          exact ro hK3 (op + 1) ⟨by omega, hspec⟩
      · obtain rfl : op = 21 := by omega
        have hno : srchF s.data.toList va vb vc 21 0 = none := hspec
        rw [hno]
        refine rr ?_
        exact en () trivial
end Go.Proofs.YtkajfjmplaobbaaDoor
namespace Go.Proofs.YtkajfjmplaobbaaDoor
open Go
set_option linter.unusedVariables false
set_option linter.unusedSimpArgs false

/-! ### One byte, looked for -/
theorem ix_miss {c : UInt8} : ∀ {l : List UInt8}, c ∉ l → Lib.index l [c] = -1
  | [], _ => rfl
  | b :: l, h => by
    have h1 : b ≠ c := fun e => h (by simp [e])
    have ih := ix_miss (c := c) (l := l) (fun e => h (by simp [e]))
    have hp : ([c] : List UInt8).isPrefixOf (b :: l) = false := by simp [List.isPrefixOf, Ne.symm h1]
    rw [Lib.index, hp, ih]
    rfl
theorem ix_hit {c : UInt8} : ∀ {a b : List UInt8}, c ∉ a → Lib.index (a ++ c :: b) [c] = (a.length : Int)
  | [], b, _ => by
    rw [List.nil_append, Lib.index]
    simp [List.isPrefixOf]
  | x :: a, b, h => by
    have h1 : x ≠ c := fun e => h (by simp [e])
    have ih := ix_hit (c := c) (a := a) (b := b) (fun e => h (by simp [e]))
    have hp : ([c] : List UInt8).isPrefixOf (x :: (a ++ c :: b)) = false := by simp [List.isPrefixOf, Ne.symm h1]
    rw [List.cons_append, Lib.index, hp, ih]
    simp only [Bool.false_eq_true, if_false, List.length_cons]
    rw [if_neg (by simp)]
    omega
theorem cut_miss {c : UInt8} {l : List UInt8} (h : c ∉ l) : Lib.cut l [c] = (l, [], false) := by
  unfold Lib.cut
  rw [ix_miss h]
  rfl
theorem cut_hit {c : UInt8} {a b : List UInt8} (h : c ∉ a) : Lib.cut (a ++ c :: b) [c] = (a, b, true) := by
  unfold Lib.cut
  rw [ix_hit h, if_pos (by omega)]
  simp
theorem split_miss {c : UInt8} {l : List UInt8} (h : c ∉ l) : Lib.split l [c] = [l] := by
  unfold Lib.split
  rw [Lib.count_miss (ix_miss h)]
  rfl
theorem split_hit {c : UInt8} {a b : List UInt8} (h : c ∉ a) : Lib.split (a ++ c :: b) [c] = a :: Lib.split b [c] := by
  have hx := ix_hit (b := b) h
  have hd : (a ++ c :: b).drop (a.length + [c].length) = b := by simp
  unfold Lib.split
  rw [Lib.count_hit (by simp) hx, hd, Nat.add_comm, Lib.splitK, if_neg (by rw [hx]; simp), hx]
  rw [Int.toNat_natCast, hd]
  simp
theorem split_join {c : UInt8} : ∀ {l : List (List UInt8)}, l ≠ [] → (∀ w ∈ l, c ∉ w) → Lib.split (Lib.join l [c]) [c] = l
  | [], h, _ => absurd rfl h
  | [a], _, h => by rw [Lib.join_one]; exact split_miss (h a (by simp))
  | a :: b :: l, _, h => by
    have ih := split_join (c := c) (l := b :: l) (by simp) (fun w hw => h w (by simp [hw]))
    have e : Lib.join (a :: b :: l) [c] = a ++ c :: Lib.join (b :: l) [c] := by
      rw [Lib.join_cons, Lib.join_cons]
      simp [Lib.joinTail]
    rw [e, split_hit (h a (by simp)), ih]

/-! ### Digits -/
theorem dgB_of {n : Nat} (h : n < 10) : dgB (UInt8.ofNat (48 + n)) = true ∧ (UInt8.ofNat (48 + n)).toNat = 48 + n := by
  have : (UInt8.ofNat (48 + n)).toNat = 48 + n := by rw [UInt8.toNat_ofNat']; omega
  refine ⟨?_, this⟩
  unfold dgB
  rw [this]
  simp
  omega
theorem dec_dig : ∀ (N m : Nat), m < N → ∀ c ∈ Lib.decDigits m, dgB c = true
  | 0, m, h => absurd h (by omega)
  | N + 1, m, h => fun c hc => by
    by_cases h9 : m < 10
    · rw [dec_one h9, List.mem_singleton] at hc
      rw [hc]; exact (dgB_of h9).1
    · rw [dec_big h9, List.mem_append, List.mem_singleton] at hc
      rcases hc with hc | hc
      · exact dec_dig N (m / 10) (by omega) c hc
      · rw [hc]; exact (dgB_of (by omega)).1
theorem dec_digs (m : Nat) : ∀ c ∈ Lib.decDigits m, dgB c = true := dec_dig (m + 1) m (by omega)
theorem dec_ne (m : Nat) : Lib.decDigits m ≠ [] := by
  intro h
  have h1 := Lib.decDigits_length m
  have h2 := Lib.nDigits_pos m
  rw [h] at h1
  simp at h1
  omega
def valF (v : Int) (l : List UInt8) : Int := l.foldl (fun v c => 10 * v + ((c.toNat : Int) - 48)) v
theorem val_dec : ∀ (N m : Nat), m < N → valF 0 (Lib.decDigits m) = (m : Int)
  | 0, m, h => absurd h (by omega)
  | N + 1, m, h => by
    by_cases h9 : m < 10
    · rw [dec_one h9]
      show 10 * 0 + (((UInt8.ofNat (48 + m)).toNat : Int) - 48) = _
      rw [(dgB_of h9).2]
      omega
    · have ih := val_dec N (m / 10) (by omega)
      rw [dec_big h9]
      unfold valF at ih ⊢
      rw [List.foldl_append, ih]
      show 10 * ((m / 10 : Nat) : Int) + (((UInt8.ofNat (48 + m % 10)).toNat : Int) - 48) = _
      rw [(dgB_of (n := m % 10) (by omega)).2]
      omega
/-- What is behind a number begins with no digit. -/
def noDg (l : List UInt8) : Prop := ∀ c, l.head? = some c → dgB c = false
theorem run_digs : ∀ (ds rest : List UInt8) (k : Nat) (v : Int), (∀ c ∈ ds, dgB c = true) → noDg rest → ds.length ≤ k → runF k v (ds ++ rest) = (valF v ds, ds.length)
  | [], rest, k, v, _, hr, _ => by
    rw [List.nil_append]
    cases rest with
    | nil => rw [run_nil]; rfl
    | cons c r =>
      have := hr c rfl
      cases k with
      | zero => rfl
      | succ k =>
        show (if dgB c then _ else _) = _
        rw [if_neg (by rw [this]; decide)]
        rfl
  | d :: ds, rest, 0, v, _, _, hk => by simp at hk
  | d :: ds, rest, k + 1, v, hd, hr, hk => by
    have ih := run_digs ds rest k (10 * v + ((d.toNat : Int) - 48)) (fun c hc => hd c (by simp [hc])) hr (by simpa using hk)
    rw [List.cons_append]
    show (if dgB d then _ else _) = _
    rw [if_pos (hd d (by simp)), ih]
    rfl
theorem itoa_ne (n : Int) : Lib.itoa n ≠ [] := by unfold Lib.itoa; split; simp; exact dec_ne _
theorem numL_itoa {n : Int} (h0 : -32768 ≤ n) (h1 : n ≤ 32767) {rest : List UInt8} (hr : noDg rest) : numL (Lib.itoa n ++ rest) = some (n, (Lib.itoa n).length) := by
  by_cases h : n < 0
  · have hl := dig_len n.natAbs (by omega)
    have hrun := run_digs (Lib.decDigits n.natAbs) rest 6 0 (dec_digs _) hr (by omega)
    have hn := dec_ne n.natAbs
    have hv := val_dec (n.natAbs + 1) n.natAbs (by omega)
    have e : Lib.itoa n = 45 :: Lib.decDigits n.natAbs := by unfold Lib.itoa; rw [if_pos h]
    rw [e]
    unfold numL
    rw [List.cons_append, List.head?_cons, if_pos rfl]
    show (if (runF 6 0 (Lib.decDigits n.natAbs ++ rest)).2 = 0 then none else some (-(runF 6 0 (Lib.decDigits n.natAbs ++ rest)).1, (runF 6 0 (Lib.decDigits n.natAbs ++ rest)).2 + 1)) = _
    rw [hrun, if_neg (by simpa using hn), hv]
    simp
    omega
  · have hl := dig_len n.toNat (by omega)
    have hrun := run_digs (Lib.decDigits n.toNat) rest 6 0 (dec_digs _) hr (by omega)
    have hn := dec_ne n.toNat
    have hv := val_dec (n.toNat + 1) n.toNat (by omega)
    have e : Lib.itoa n = Lib.decDigits n.toNat := by unfold Lib.itoa; rw [if_neg h]
    rw [e]
    have hh : (Lib.decDigits n.toNat ++ rest).head? ≠ some 45 := by
      cases hd : Lib.decDigits n.toNat with
      | nil => exact absurd hd hn
      | cons c t =>
        have := dec_digs n.toNat c (by rw [hd]; simp)
        rw [List.cons_append, List.head?_cons]
        intro hc
        simp only [Option.some.injEq] at hc
        rw [hc] at this
        exact absurd this (by decide)
    unfold numL
    rw [if_neg hh, hrun, if_neg (by simpa using hn), hv]
    simp
    omega
theorem numsL_itoa {n : Int} (h0 : -32768 ≤ n) (h1 : n ≤ 32767) {rest : List UInt8} (hr : noDg rest) : numsL 0 (Lib.itoa n ++ rest) = n :: numsL 0 rest := by
  have hn := numL_itoa h0 h1 hr
  have hne := itoa_ne n
  have hlen : 0 < (Lib.itoa n ++ rest).length := by
    cases hx : Lib.itoa n with
    | nil => exact absurd hx hne
    | cons => simp
  have := nums_yes (l := Lib.itoa n ++ rest) (p := 0) hlen (v := n) (k := (Lib.itoa n).length) (by cases hx : Lib.itoa n with | nil => exact absurd hx hne | cons => simp) (by rw [List.drop_zero]; exact hn)
  rw [List.drop_zero, Nat.zero_add] at this
  rw [this]
  simp
/-- Bytes that begin no number are passed over. -/
def dull (c : UInt8) : Bool := !dgB c && decide (c ≠ 45)
theorem numsL_dull : ∀ (a rest : List UInt8), (∀ c ∈ a, dull c = true) → numsL 0 (a ++ rest) = numsL 0 rest
  | [], rest, _ => rfl
  | c :: a, rest, h => by
    have ih := numsL_dull a rest (fun x hx => h x (by simp [hx]))
    have hc := h c (by simp)
    unfold dull at hc
    simp only [Bool.and_eq_true, Bool.not_eq_true', decide_eq_true_eq] at hc
    have hnone : numL (c :: (a ++ rest)) = none := by
      unfold numL
      rw [if_neg (by simpa using hc.2)]
      rw [show runF 6 0 (c :: (a ++ rest)) = (0, 0) by
        show (if dgB c then _ else _) = _
        rw [if_neg (by rw [hc.1]; decide)]]
      rfl
    rw [List.cons_append]
    have := nums_no (l := c :: (a ++ rest)) (p := 0) (by simp) (by rw [List.drop_zero]; exact hnone)
    rw [List.drop_zero] at this
    rw [this]
    exact ih
theorem noDg_nil : noDg [] := fun c h => by cases h
theorem noDg_cons {c : UInt8} {l : List UInt8} (h : dgB c = false) : noDg (c :: l) := fun d hd => by
  simp only [List.head?_cons, Option.some.injEq] at hd
  rw [← hd]; exact h

/-! ### strconv.Atoi gives back what Itoa writes -/
theorem decFrom_app (b : List UInt8) : ∀ (a : List UInt8) (acc m : Nat), Lib.decFrom acc a = some m → Lib.decFrom acc (a ++ b) = Lib.decFrom m b
  | [], acc, m, h => by
    simp only [Lib.decFrom, Option.some.injEq] at h
    rw [h]; rfl
  | c :: a, acc, m, h => by
    rw [List.cons_append]
    simp only [Lib.decFrom] at h ⊢
    cases hd : Lib.digitVal c with
    | none => rw [hd] at h; cases h
    | some d =>
      rw [hd] at h
      exact decFrom_app b a _ m h
theorem digitVal_of {n : Nat} (h : n < 10) : Lib.digitVal (UInt8.ofNat (48 + n)) = some n := by
  unfold Lib.digitVal
  rw [(dgB_of h).2, if_pos (by omega)]
  simp
theorem decFrom_dec : ∀ (N m : Nat), m < N → Lib.decFrom 0 (Lib.decDigits m) = some m
  | 0, m, h => absurd h (by omega)
  | N + 1, m, h => by
    by_cases h9 : m < 10
    · rw [dec_one h9]
      unfold Lib.decFrom
      rw [digitVal_of h9]
      simp [Lib.decFrom]
    · have ih := decFrom_dec N (m / 10) (by omega)
      rw [dec_big h9, decFrom_app _ _ _ _ ih]
      unfold Lib.decFrom
      rw [digitVal_of (n := m % 10) (by omega)]
      simp only [Lib.decFrom, Option.some.injEq]
      omega
theorem atoi_itoa {n : Int} (h0 : -32768 ≤ n) (h1 : n ≤ 32767) : Lib.atoiAll (Lib.itoa n) = .ok n := by
  have hl := itoa_len n h0 h1
  rw [Lib.atoiAll_short _ (by omega)]
  have key : Lib.atoi (Lib.itoa n) = some n := by
    by_cases h : n < 0
    · have e : Lib.itoa n = 45 :: Lib.decDigits n.natAbs := by unfold Lib.itoa; rw [if_pos h]
      have hd := decFrom_dec (n.natAbs + 1) n.natAbs (by omega)
      have hne := dec_ne n.natAbs
      rw [e]
      simp only [Lib.atoi, Lib.decNat]
      rw [if_pos (by decide), if_neg (by simpa using hne), hd]
      simp
      omega
    · have e : Lib.itoa n = Lib.decDigits n.toNat := by unfold Lib.itoa; rw [if_neg h]
      have hd := decFrom_dec (n.toNat + 1) n.toNat (by omega)
      have hne := dec_ne n.toNat
      have hdg := dec_digs n.toNat
      rw [e]
      cases hc : Lib.decDigits n.toNat with
      | nil => exact absurd hc hne
      | cons c t =>
        have hcd := hdg c (by rw [hc]; simp)
        simp only [Lib.atoi, Lib.decNat]
        rw [if_neg (by intro hx; rw [beq_iff_eq.1 hx] at hcd; exact absurd hcd (by decide)), if_neg (by intro hx; rw [beq_iff_eq.1 hx] at hcd; exact absurd hcd (by decide)), if_neg (by simp), ← hc, hd]
        simp
        omega
  rw [key]
  rfl
theorem trim_rg (n : Int) : Lib.trimPrefix (rg n) [114] = Lib.itoa n := by
  unfold Lib.trimPrefix Lib.hasPrefix rg
  simp [List.isPrefixOf]
theorem trim_itoa (n : Int) : Lib.trimPrefix (Lib.itoa n) [114] = Lib.itoa n := by
  unfold Lib.trimPrefix Lib.hasPrefix
  cases hc : Lib.itoa n with
  | nil => exact absurd hc (itoa_ne n)
  | cons c t =>
    have hne : c ≠ 114 := by
      unfold Lib.itoa at hc
      split at hc
      · simp only [List.cons.injEq] at hc
        rw [← hc.1]; decide
      · have := dec_digs n.toNat c (by rw [hc]; simp)
        intro e
        rw [e] at this
        exact absurd this (by decide)
    simp [List.isPrefixOf, Ne.symm hne]
end Go.Proofs.YtkajfjmplaobbaaDoor

/- What is known of the program's types: each row by the kernel. -/
import Derived.Test.YtnodlolicndopaaProg
import Derived.Test.YtnodlolicndopaaSx8
namespace Go.Proofs.Ytnodlolicndopaa
open Go Go.Sx Go.Sx.Chunk
def tyRows : List (Nat × TyI) := [
  (1, ⟨.func #[] #[] false, 1, 8, [.nilFunc]⟩),
  (2, ⟨.int .i64, 1, 8, [.int .i64 0]⟩),
  (3, ⟨.int .i64, 1, 8, [.int .i64 0]⟩),
  (4, ⟨.bool, 1, 1, [.bool false]⟩),
  (5, ⟨.int .u8, 1, 1, [.int .u8 0]⟩),
  (6, ⟨.int .u8, 1, 1, [.int .u8 0]⟩),
  (7, ⟨.struct #[⟨"x", 2, 0, false, "", "runtime", 0⟩, ⟨"y", 3, 1, false, "", "runtime", 8⟩, ⟨"signed", 4, 2, false, "", "runtime", 16⟩, ⟨"code", 6, 3, false, "", "runtime", 17⟩], 4, 24, [.int .i64 0, .int .i64 0, .bool false, .int .u8 0]⟩),
  (8, ⟨.struct #[⟨"x", 2, 0, false, "", "runtime", 0⟩, ⟨"y", 3, 1, false, "", "runtime", 8⟩, ⟨"signed", 4, 2, false, "", "runtime", 16⟩, ⟨"code", 6, 3, false, "", "runtime", 17⟩], 4, 24, [.int .i64 0, .int .i64 0, .bool false, .int .u8 0]⟩),
  (9, ⟨.string, 1, 16, [.string .empty]⟩),
  (10, ⟨.string, 1, 16, [.string .empty]⟩),
  (11, ⟨.string, 1, 16, [.string .empty]⟩),
  (12, ⟨.int .u64, 1, 8, [.int .u64 0]⟩),
  (13, ⟨.struct #[⟨"msg", 9, 0, false, "", "runtime", 0⟩, ⟨"addr", 12, 1, false, "", "runtime", 16⟩], 2, 24, [.string .empty, .int .u64 0]⟩),
  (14, ⟨.struct #[⟨"msg", 9, 0, false, "", "runtime", 0⟩, ⟨"addr", 12, 1, false, "", "runtime", 16⟩], 2, 24, [.string .empty, .int .u64 0]⟩),
  (15, ⟨.pointer 49, 1, 8, [.pointer none]⟩),
  (16, ⟨.pointer 52, 1, 8, [.pointer none]⟩),
  (17, ⟨.pointer 61, 1, 8, [.pointer none]⟩),
  (18, ⟨.struct #[⟨"typ", 17, 0, false, "", "internal/runtime/maps", 0⟩], 1, 8, [.pointer none]⟩),
  (19, ⟨.struct #[⟨"typ", 17, 0, false, "", "internal/runtime/maps", 0⟩], 1, 8, [.pointer none]⟩),
  (21, ⟨.int .i32, 1, 4, [.int .i32 0]⟩),
  (22, ⟨.struct #[⟨"Op", 3, 0, false, "", "", 0⟩, ⟨"A", 3, 1, false, "", "", 8⟩, ⟨"B", 3, 2, false, "", "", 16⟩, ⟨"C", 3, 3, false, "", "", 24⟩, ⟨"Imm", 3, 4, false, "", "", 32⟩], 5, 40, [.int .i64 0, .int .i64 0, .int .i64 0, .int .i64 0, .int .i64 0]⟩),
  (23, ⟨.struct #[⟨"Op", 3, 0, false, "", "", 0⟩, ⟨"A", 3, 1, false, "", "", 8⟩, ⟨"B", 3, 2, false, "", "", 16⟩, ⟨"C", 3, 3, false, "", "", 24⟩, ⟨"Imm", 3, 4, false, "", "", 32⟩], 5, 40, [.int .i64 0, .int .i64 0, .int .i64 0, .int .i64 0, .int .i64 0]⟩),
  (25, ⟨.func #[23] #[3, 4] false, 1, 8, [.nilFunc]⟩),
  (26, ⟨.func #[23] #[4] false, 1, 8, [.nilFunc]⟩),
  (27, ⟨.func #[] #[4] false, 1, 8, [.nilFunc]⟩),
  (29, ⟨.func #[3] #[23, 4] false, 1, 8, [.nilFunc]⟩),
  (30, ⟨.func #[23] #[3] false, 1, 8, [.nilFunc]⟩),
  (31, ⟨.func #[3] #[4] false, 1, 8, [.nilFunc]⟩),
  (32, ⟨.int .u64, 1, 8, [.int .u64 0]⟩),
  (33, ⟨.func #[5, 5, 5, 5, 5] #[4] false, 1, 8, [.nilFunc]⟩),
  (34, ⟨.int .i16, 1, 2, [.int .i16 0]⟩),
  (35, ⟨.func #[34, 5] #[4] false, 1, 8, [.nilFunc]⟩),
  (36, ⟨.int .u32, 1, 4, [.int .u32 0]⟩),
  (37, ⟨.func #[23, 36] #[4] false, 1, 8, [.nilFunc]⟩),
  (38, ⟨.func #[3] #[3] false, 1, 8, [.nilFunc]⟩),
  (39, ⟨.slice 3, 1, 24, [.slice none 0 0]⟩),
  (40, ⟨.struct #[⟨"a", 4, 0, false, "", "delayslot/isa", 0⟩, ⟨"b", 4, 1, false, "", "delayslot/isa", 1⟩, ⟨"c", 4, 2, false, "", "delayslot/isa", 2⟩, ⟨"imm", 4, 3, false, "", "delayslot/isa", 3⟩], 4, 4, [.bool false, .bool false, .bool false, .bool false]⟩),
  (41, ⟨.struct #[⟨"a", 4, 0, false, "", "delayslot/isa", 0⟩, ⟨"b", 4, 1, false, "", "delayslot/isa", 1⟩, ⟨"c", 4, 2, false, "", "delayslot/isa", 2⟩, ⟨"imm", 4, 3, false, "", "delayslot/isa", 3⟩], 4, 4, [.bool false, .bool false, .bool false, .bool false]⟩),
  (43, ⟨.func #[3] #[41, 4] false, 1, 8, [.nilFunc]⟩),
  (44, ⟨.func #[3, 4] #[4] false, 1, 8, [.nilFunc]⟩),
  (45, ⟨.func #[3, 3] #[4] false, 1, 8, [.nilFunc]⟩),
  (46, ⟨.func #[3, 3] #[3] false, 1, 8, [.nilFunc]⟩),
  (47, ⟨.func #[] #[9] false, 1, 8, [.nilFunc]⟩),
  (48, ⟨.struct #[⟨"_interface", 17, 0, false, "", "runtime", 0⟩, ⟨"concrete", 17, 1, false, "", "runtime", 8⟩, ⟨"asserted", 17, 2, false, "", "runtime", 16⟩, ⟨"missingMethod", 9, 3, false, "", "runtime", 24⟩], 4, 40, [.pointer none, .pointer none, .pointer none, .string .empty]⟩),
  (49, ⟨.struct #[⟨"_interface", 17, 0, false, "", "runtime", 0⟩, ⟨"concrete", 17, 1, false, "", "runtime", 8⟩, ⟨"asserted", 17, 2, false, "", "runtime", 16⟩, ⟨"missingMethod", 9, 3, false, "", "runtime", 24⟩], 4, 40, [.pointer none, .pointer none, .pointer none, .string .empty]⟩),
  (50, ⟨.array 0 16, 0, 0, []⟩),
  (51, ⟨.struct #[⟨"_", 50, 0, false, "", "runtime", 0⟩], 0, 0, []⟩),
  (52, ⟨.struct #[⟨"_", 50, 0, false, "", "runtime", 0⟩], 0, 0, []⟩),
  (53, ⟨.func #[] #[3] false, 1, 8, [.nilFunc]⟩),
  (54, ⟨.int .u8, 1, 1, [.int .u8 0]⟩),
  (55, ⟨.int .u8, 1, 1, [.int .u8 0]⟩),
  (56, ⟨.func #[62, 62] #[4] false, 1, 8, [.nilFunc]⟩),
  (57, ⟨.pointer 5, 1, 8, [.pointer none]⟩),
  (58, ⟨.int .i32, 1, 4, [.int .i32 0]⟩),
  (59, ⟨.int .i32, 1, 4, [.int .i32 0]⟩),
  (60, ⟨.struct #[⟨"Size_", 12, 0, false, "", "", 0⟩, ⟨"PtrBytes", 12, 1, false, "", "", 8⟩, ⟨"Hash", 36, 2, false, "", "", 16⟩, ⟨"TFlag", 54, 3, false, "", "", 20⟩, ⟨"Align_", 5, 4, false, "", "", 21⟩, ⟨"FieldAlign_", 5, 5, false, "", "", 22⟩, ⟨"Kind_", 55, 6, false, "", "", 23⟩, ⟨"Equal", 56, 7, false, "", "", 24⟩, ⟨"GCData", 57, 8, false, "", "", 32⟩, ⟨"Str", 58, 9, false, "", "", 40⟩, ⟨"PtrToThis", 59, 10, false, "", "", 44⟩], 11, 48, [.int .u64 0, .int .u64 0, .int .u32 0, .int .u8 0, .int .u8 0, .int .u8 0, .int .u8 0, .nilFunc, .pointer none, .int .i32 0, .int .i32 0]⟩),
  (61, ⟨.struct #[⟨"Size_", 12, 0, false, "", "", 0⟩, ⟨"PtrBytes", 12, 1, false, "", "", 8⟩, ⟨"Hash", 36, 2, false, "", "", 16⟩, ⟨"TFlag", 54, 3, false, "", "", 20⟩, ⟨"Align_", 5, 4, false, "", "", 21⟩, ⟨"FieldAlign_", 5, 5, false, "", "", 22⟩, ⟨"Kind_", 55, 6, false, "", "", 23⟩, ⟨"Equal", 56, 7, false, "", "", 24⟩, ⟨"GCData", 57, 8, false, "", "", 32⟩, ⟨"Str", 58, 9, false, "", "", 40⟩, ⟨"PtrToThis", 59, 10, false, "", "", 44⟩], 11, 48, [.int .u64 0, .int .u64 0, .int .u32 0, .int .u8 0, .int .u8 0, .int .u8 0, .int .u8 0, .nilFunc, .pointer none, .int .i32 0, .int .i32 0]⟩)]
theorem ty_desc : tyRows.map (fun e => Try.prog.underlying e.1) = tyRows.map (fun e => some e.2.desc) := by kernel_rfl
theorem ty_info : tyRows.map (fun e => (Try.prog.info? e.1).map fun i => (i.size, i.bytes, i.zero.map (·.cells))) = tyRows.map (fun e => some (e.2.size, e.2.bytes, some e.2.zero.toArray)) := by kernel_rfl
theorem map_at {α β : Type} {f g : α → β} {l : List α} (h : l.map f = l.map g) : ∀ x ∈ l, f x = g x := by
  induction l with
  | nil => intro x hx; simp at hx
  | cons y l ih =>
    simp only [List.map_cons, List.cons.injEq] at h
    intro x hx
    rcases List.mem_cons.1 hx with rfl | hx
    · exact h.1
    · exact ih h.2 x hx
def T : Tab Try.prog := ⟨tyRows, fun t i hm => by
  have h1 := map_at ty_desc (t, i) hm
  have h2 := map_at ty_info (t, i) hm
  dsimp only at h1 h2
  refine ⟨h1, ?_⟩
  cases hq : Try.prog.info? t with
  | none => rw [hq] at h2; cases h2
  | some ti =>
    rw [hq] at h2
    simp only [Option.map_some, Option.some.injEq, Prod.mk.injEq] at h2
    obtain ⟨h3, h4, h5⟩ := h2
    cases hz : ti.zero with
    | none => rw [hz] at h5; cases h5
    | some z =>
      rw [hz] at h5
      simp only [Option.map_some, Option.some.injEq] at h5
      exact ⟨ti, z, rfl, h3, h4, hz, h5⟩⟩
end Go.Proofs.Ytnodlolicndopaa

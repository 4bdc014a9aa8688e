/- What is known of the program's types: each row by the kernel. -/
import Derived.Test.YtgmegfmabkkaoaaProg
import Derived.Test.YtgmegfmabkkaoaaSx8
namespace Go.Proofs.Ytgmegfmabkkaoaa
open Go Go.Sx Go.Sx.Chunk
def tyRows : List (Nat × TyI) := [
  (1, ⟨.func #[] #[] false, 1, 8, [.nilFunc]⟩),
  (2, ⟨.int .i64, 1, 8, [.int .i64 0]⟩),
  (3, ⟨.int .i64, 1, 8, [.int .i64 0]⟩),
  (4, ⟨.bool, 1, 1, [.bool false]⟩),
  (5, ⟨.int .u8, 1, 1, [.int .u8 0]⟩),
  (6, ⟨.int .u8, 1, 1, [.int .u8 0]⟩),
  (7, ⟨.struct #[⟨"x", 2, 0, false, "", "runtime", 0⟩, ⟨"y", 3, 1, false, "", "runtime", 8⟩, ⟨"signed", 4, 2, false, "", "runtime", 16⟩, ⟨"code", 6, 3, false, "", "runtime", 17⟩], 4, 24, [.int .i64 0, .int .i64 0, .bool false, .int .u8 0]⟩),
  (8, ⟨.struct #[⟨"x", 2, 0, false, "", "runtime", 0⟩, ⟨"y", 3, 1, false, "", "runtime", 8⟩, ⟨"signed", 4, 2, false, "", "runtime", 16⟩, ⟨"code", 6, 3, false, "", "runtime", 17⟩], 4, 24, [.int .i64 0, .int .i64 0, .bool false, .int .u8 0]⟩),
  (9, ⟨.string, 1, 16, [.string .empty]⟩),
  (10, ⟨.string, 1, 16, [.string .empty]⟩),
  (11, ⟨.string, 1, 16, [.string .empty]⟩),
  (12, ⟨.int .u64, 1, 8, [.int .u64 0]⟩),
  (13, ⟨.struct #[⟨"msg", 9, 0, false, "", "runtime", 0⟩, ⟨"addr", 12, 1, false, "", "runtime", 16⟩], 2, 24, [.string .empty, .int .u64 0]⟩),
  (14, ⟨.struct #[⟨"msg", 9, 0, false, "", "runtime", 0⟩, ⟨"addr", 12, 1, false, "", "runtime", 16⟩], 2, 24, [.string .empty, .int .u64 0]⟩),
  (15, ⟨.pointer 103, 1, 8, [.pointer none]⟩),
  (16, ⟨.pointer 106, 1, 8, [.pointer none]⟩),
  (17, ⟨.pointer 116, 1, 8, [.pointer none]⟩),
  (18, ⟨.struct #[⟨"typ", 17, 0, false, "", "internal/runtime/maps", 0⟩], 1, 8, [.pointer none]⟩),
  (19, ⟨.struct #[⟨"typ", 17, 0, false, "", "internal/runtime/maps", 0⟩], 1, 8, [.pointer none]⟩),
  (21, ⟨.int .i32, 1, 4, [.int .i32 0]⟩),
  (22, ⟨.slice 63, 1, 24, [.slice none 0 0]⟩),
  (23, ⟨.slice 48, 1, 24, [.slice none 0 0]⟩),
  (24, ⟨.slice 9, 1, 24, [.slice none 0 0]⟩),
  (25, ⟨.slice 54, 1, 24, [.slice none 0 0]⟩),
  (26, ⟨.struct #[⟨"Name", 9, 0, false, "", "", 0⟩, ⟨"Code", 22, 1, false, "", "", 16⟩, ⟨"Data", 3, 2, false, "", "", 40⟩, ⟨"Exports", 23, 3, false, "", "", 48⟩, ⟨"Imports", 24, 4, false, "", "", 72⟩, ⟨"Patches", 25, 5, false, "", "", 96⟩], 6, 120, [.string .empty, .slice none 0 0, .int .i64 0, .slice none 0 0, .slice none 0 0, .slice none 0 0]⟩),
  (27, ⟨.struct #[⟨"Name", 9, 0, false, "", "", 0⟩, ⟨"Code", 22, 1, false, "", "", 16⟩, ⟨"Data", 3, 2, false, "", "", 40⟩, ⟨"Exports", 23, 3, false, "", "", 48⟩, ⟨"Imports", 24, 4, false, "", "", 72⟩, ⟨"Patches", 25, 5, false, "", "", 96⟩], 6, 120, [.string .empty, .slice none 0 0, .int .i64 0, .slice none 0 0, .slice none 0 0, .slice none 0 0]⟩),
  (28, ⟨.slice 52, 1, 24, [.slice none 0 0]⟩),
  (29, ⟨.slice 55, 1, 24, [.slice none 0 0]⟩),
  (30, ⟨.struct #[⟨"Name", 9, 0, false, "", "", 0⟩, ⟨"Code", 22, 1, false, "", "", 16⟩, ⟨"Data", 3, 2, false, "", "", 40⟩, ⟨"Exports", 28, 3, false, "", "", 48⟩, ⟨"Imports", 24, 4, false, "", "", 72⟩, ⟨"Patches", 29, 5, false, "", "", 96⟩], 6, 120, [.string .empty, .slice none 0 0, .int .i64 0, .slice none 0 0, .slice none 0 0, .slice none 0 0]⟩),
  (31, ⟨.struct #[⟨"Name", 9, 0, false, "", "", 0⟩, ⟨"Code", 22, 1, false, "", "", 16⟩, ⟨"Data", 3, 2, false, "", "", 40⟩, ⟨"Exports", 28, 3, false, "", "", 48⟩, ⟨"Imports", 24, 4, false, "", "", 72⟩, ⟨"Patches", 29, 5, false, "", "", 96⟩], 6, 120, [.string .empty, .slice none 0 0, .int .i64 0, .slice none 0 0, .slice none 0 0, .slice none 0 0]⟩),
  (32, ⟨.func #[27] #[31] false, 1, 8, [.nilFunc]⟩),
  (33, ⟨.func #[31] #[4] false, 1, 8, [.nilFunc]⟩),
  (34, ⟨.func #[] #[4] false, 1, 8, [.nilFunc]⟩),
  (35, ⟨.int .i64, 1, 8, [.int .i64 0]⟩),
  (37, ⟨.func #[27] #[9, 35] false, 1, 8, [.nilFunc]⟩),
  (38, ⟨.func #[27] #[4] false, 1, 8, [.nilFunc]⟩),
  (39, ⟨.func #[9] #[4] false, 1, 8, [.nilFunc]⟩),
  (41, ⟨.func #[9] #[27, 35] false, 1, 8, [.nilFunc]⟩),
  (42, ⟨.func #[31] #[9] false, 1, 8, [.nilFunc]⟩),
  (43, ⟨.func #[31, 31] #[4] false, 1, 8, [.nilFunc]⟩),
  (44, ⟨.func #[27, 9] #[4] false, 1, 8, [.nilFunc]⟩),
  (46, ⟨.func #[9] #[31, 4] false, 1, 8, [.nilFunc]⟩),
  (47, ⟨.struct #[⟨"Name", 9, 0, false, "", "", 0⟩, ⟨"At", 3, 1, false, "", "", 16⟩], 2, 24, [.string .empty, .int .i64 0]⟩),
  (48, ⟨.struct #[⟨"Name", 9, 0, false, "", "", 0⟩, ⟨"At", 3, 1, false, "", "", 16⟩], 2, 24, [.string .empty, .int .i64 0]⟩),
  (49, ⟨.int .u16, 1, 2, [.int .u16 0]⟩),
  (50, ⟨.func #[27, 49, 9] #[4] false, 1, 8, [.nilFunc]⟩),
  (51, ⟨.func #[27, 27] #[4] false, 1, 8, [.nilFunc]⟩),
  (52, ⟨.struct #[⟨"Name", 9, 0, false, "", "", 0⟩, ⟨"At", 3, 1, false, "", "", 16⟩], 2, 24, [.string .empty, .int .i64 0]⟩),
  (53, ⟨.struct #[⟨"At", 3, 0, false, "", "", 0⟩, ⟨"Kind", 3, 1, false, "", "", 8⟩, ⟨"N", 3, 2, false, "", "", 16⟩], 3, 24, [.int .i64 0, .int .i64 0, .int .i64 0]⟩),
  (54, ⟨.struct #[⟨"At", 3, 0, false, "", "", 0⟩, ⟨"Kind", 3, 1, false, "", "", 8⟩, ⟨"N", 3, 2, false, "", "", 16⟩], 3, 24, [.int .i64 0, .int .i64 0, .int .i64 0]⟩),
  (55, ⟨.struct #[⟨"At", 3, 0, false, "", "", 0⟩, ⟨"Kind", 3, 1, false, "", "", 8⟩, ⟨"N", 3, 2, false, "", "", 16⟩], 3, 24, [.int .i64 0, .int .i64 0, .int .i64 0]⟩),
  (56, ⟨.pointer 59, 1, 8, [.pointer none]⟩),
  (57, ⟨.slice 5, 1, 24, [.slice none 0 0]⟩),
  (58, ⟨.struct #[⟨"b", 57, 0, false, "", "delayslot/object", 0⟩], 1, 24, [.slice none 0 0]⟩),
  (59, ⟨.struct #[⟨"b", 57, 0, false, "", "delayslot/object", 0⟩], 1, 24, [.slice none 0 0]⟩),
  (60, ⟨.func #[9] #[] false, 1, 8, [.nilFunc]⟩),
  (61, ⟨.func #[3] #[] false, 1, 8, [.nilFunc]⟩),
  (62, ⟨.struct #[⟨"Op", 3, 0, false, "", "", 0⟩, ⟨"A", 3, 1, false, "", "", 8⟩, ⟨"B", 3, 2, false, "", "", 16⟩, ⟨"C", 3, 3, false, "", "", 24⟩, ⟨"Imm", 3, 4, false, "", "", 32⟩], 5, 40, [.int .i64 0, .int .i64 0, .int .i64 0, .int .i64 0, .int .i64 0]⟩),
  (63, ⟨.struct #[⟨"Op", 3, 0, false, "", "", 0⟩, ⟨"A", 3, 1, false, "", "", 8⟩, ⟨"B", 3, 2, false, "", "", 16⟩, ⟨"C", 3, 3, false, "", "", 24⟩, ⟨"Imm", 3, 4, false, "", "", 32⟩], 5, 40, [.int .i64 0, .int .i64 0, .int .i64 0, .int .i64 0, .int .i64 0]⟩),
  (65, ⟨.func #[63] #[3, 4] false, 1, 8, [.nilFunc]⟩),
  (66, ⟨.func #[63] #[4] false, 1, 8, [.nilFunc]⟩),
  (67, ⟨.func #[22, 66] #[4] false, 1, 8, [.nilFunc]⟩),
  (68, ⟨.func #[24] #[4] false, 1, 8, [.nilFunc]⟩),
  (69, ⟨.func #[25, 70] #[4] false, 1, 8, [.nilFunc]⟩),
  (70, ⟨.func #[54] #[4] false, 1, 8, [.nilFunc]⟩),
  (71, ⟨.func #[9, 72] #[3] false, 1, 8, [.nilFunc]⟩),
  (72, ⟨.func #[21] #[4] false, 1, 8, [.nilFunc]⟩),
  (73, ⟨.pointer 75, 1, 8, [.pointer none]⟩),
  (74, ⟨.struct #[⟨"s", 9, 0, false, "", "delayslot/object", 0⟩, ⟨"bad", 4, 1, false, "", "delayslot/object", 16⟩], 2, 24, [.string .empty, .bool false]⟩),
  (75, ⟨.struct #[⟨"s", 9, 0, false, "", "delayslot/object", 0⟩, ⟨"bad", 4, 1, false, "", "delayslot/object", 16⟩], 2, 24, [.string .empty, .bool false]⟩),
  (76, ⟨.func #[3] #[9] false, 1, 8, [.nilFunc]⟩),
  (77, ⟨.func #[] #[9] false, 1, 8, [.nilFunc]⟩),
  (78, ⟨.func #[3, 3] #[3] false, 1, 8, [.nilFunc]⟩),
  (79, ⟨.func #[3] #[3] false, 1, 8, [.nilFunc]⟩),
  (81, ⟨.func #[3] #[63, 4] false, 1, 8, [.nilFunc]⟩),
  (82, ⟨.func #[9] #[9] false, 1, 8, [.nilFunc]⟩),
  (83, ⟨.func #[63] #[3] false, 1, 8, [.nilFunc]⟩),
  (85, ⟨.func #[9, 3] #[9, 3] false, 1, 8, [.nilFunc]⟩),
  (86, ⟨.func #[9, 3, 3] #[3] false, 1, 8, [.nilFunc]⟩),
  (87, ⟨.int .u64, 1, 8, [.int .u64 0]⟩),
  (88, ⟨.slice 3, 1, 24, [.slice none 0 0]⟩),
  (89, ⟨.func #[22, 66] #[3] false, 1, 8, [.nilFunc]⟩),
  (90, ⟨.struct #[⟨"a", 4, 0, false, "", "delayslot/isa", 0⟩, ⟨"b", 4, 1, false, "", "delayslot/isa", 1⟩, ⟨"c", 4, 2, false, "", "delayslot/isa", 2⟩, ⟨"imm", 4, 3, false, "", "delayslot/isa", 3⟩], 4, 4, [.bool false, .bool false, .bool false, .bool false]⟩),
  (91, ⟨.struct #[⟨"a", 4, 0, false, "", "delayslot/isa", 0⟩, ⟨"b", 4, 1, false, "", "delayslot/isa", 1⟩, ⟨"c", 4, 2, false, "", "delayslot/isa", 2⟩, ⟨"imm", 4, 3, false, "", "delayslot/isa", 3⟩], 4, 4, [.bool false, .bool false, .bool false, .bool false]⟩),
  (93, ⟨.func #[3] #[91, 4] false, 1, 8, [.nilFunc]⟩),
  (94, ⟨.func #[3, 4] #[4] false, 1, 8, [.nilFunc]⟩),
  (95, ⟨.func #[3, 3] #[4] false, 1, 8, [.nilFunc]⟩),
  (96, ⟨.map 9 4, 1, 8, [.map none]⟩),
  (97, ⟨.struct #[⟨"there", 96, 0, false, "", "delayslot/bag", 0⟩, ⟨"order", 24, 1, false, "", "delayslot/bag", 8⟩], 2, 32, [.map none, .slice none 0 0]⟩),
  (98, ⟨.struct #[⟨"there", 96, 0, false, "", "delayslot/bag", 0⟩, ⟨"order", 24, 1, false, "", "delayslot/bag", 8⟩], 2, 32, [.map none, .slice none 0 0]⟩),
  (99, ⟨.func #[25, 70] #[3] false, 1, 8, [.nilFunc]⟩),
  (100, ⟨.func #[9, 72, 4] #[3] false, 1, 8, [.nilFunc]⟩),
  (101, ⟨.pointer 98, 1, 8, [.pointer none]⟩),
  (102, ⟨.struct #[⟨"_interface", 17, 0, false, "", "runtime", 0⟩, ⟨"concrete", 17, 1, false, "", "runtime", 8⟩, ⟨"asserted", 17, 2, false, "", "runtime", 16⟩, ⟨"missingMethod", 9, 3, false, "", "runtime", 24⟩], 4, 40, [.pointer none, .pointer none, .pointer none, .string .empty]⟩),
  (103, ⟨.struct #[⟨"_interface", 17, 0, false, "", "runtime", 0⟩, ⟨"concrete", 17, 1, false, "", "runtime", 8⟩, ⟨"asserted", 17, 2, false, "", "runtime", 16⟩, ⟨"missingMethod", 9, 3, false, "", "runtime", 24⟩], 4, 40, [.pointer none, .pointer none, .pointer none, .string .empty]⟩),
  (104, ⟨.array 0 16, 0, 0, []⟩),
  (105, ⟨.struct #[⟨"_", 104, 0, false, "", "runtime", 0⟩], 0, 0, []⟩),
  (106, ⟨.struct #[⟨"_", 104, 0, false, "", "runtime", 0⟩], 0, 0, []⟩),
  (107, ⟨.func #[] #[3] false, 1, 8, [.nilFunc]⟩),
  (108, ⟨.int .u32, 1, 4, [.int .u32 0]⟩),
  (109, ⟨.int .u8, 1, 1, [.int .u8 0]⟩),
  (110, ⟨.int .u8, 1, 1, [.int .u8 0]⟩),
  (111, ⟨.func #[117, 117] #[4] false, 1, 8, [.nilFunc]⟩),
  (112, ⟨.pointer 5, 1, 8, [.pointer none]⟩),
  (113, ⟨.int .i32, 1, 4, [.int .i32 0]⟩),
  (114, ⟨.int .i32, 1, 4, [.int .i32 0]⟩),
  (115, ⟨.struct #[⟨"Size_", 12, 0, false, "", "", 0⟩, ⟨"PtrBytes", 12, 1, false, "", "", 8⟩, ⟨"Hash", 108, 2, false, "", "", 16⟩, ⟨"TFlag", 109, 3, false, "", "", 20⟩, ⟨"Align_", 5, 4, false, "", "", 21⟩, ⟨"FieldAlign_", 5, 5, false, "", "", 22⟩, ⟨"Kind_", 110, 6, false, "", "", 23⟩, ⟨"Equal", 111, 7, false, "", "", 24⟩, ⟨"GCData", 112, 8, false, "", "", 32⟩, ⟨"Str", 113, 9, false, "", "", 40⟩, ⟨"PtrToThis", 114, 10, false, "", "", 44⟩], 11, 48, [.int .u64 0, .int .u64 0, .int .u32 0, .int .u8 0, .int .u8 0, .int .u8 0, .int .u8 0, .nilFunc, .pointer none, .int .i32 0, .int .i32 0]⟩),
  (116, ⟨.struct #[⟨"Size_", 12, 0, false, "", "", 0⟩, ⟨"PtrBytes", 12, 1, false, "", "", 8⟩, ⟨"Hash", 108, 2, false, "", "", 16⟩, ⟨"TFlag", 109, 3, false, "", "", 20⟩, ⟨"Align_", 5, 4, false, "", "", 21⟩, ⟨"FieldAlign_", 5, 5, false, "", "", 22⟩, ⟨"Kind_", 110, 6, false, "", "", 23⟩, ⟨"Equal", 111, 7, false, "", "", 24⟩, ⟨"GCData", 112, 8, false, "", "", 32⟩, ⟨"Str", 113, 9, false, "", "", 40⟩, ⟨"PtrToThis", 114, 10, false, "", "", 44⟩], 11, 48, [.int .u64 0, .int .u64 0, .int .u32 0, .int .u8 0, .int .u8 0, .int .u8 0, .int .u8 0, .nilFunc, .pointer none, .int .i32 0, .int .i32 0]⟩)]
theorem ty_desc : tyRows.map (fun e => Try.prog.underlying e.1) = tyRows.map (fun e => some e.2.desc) := by kernel_rfl
theorem ty_info : tyRows.map (fun e => (Try.prog.info? e.1).map fun i => (i.size, i.bytes, i.zero.map (·.cells))) = tyRows.map (fun e => some (e.2.size, e.2.bytes, some e.2.zero.toArray)) := by kernel_rfl
theorem map_at {α β : Type} {f g : α → β} {l : List α} (h : l.map f = l.map g) : ∀ x ∈ l, f x = g x := by
  induction l with
  | nil => intro x hx; simp at hx
  | cons y l ih =>
    simp only [List.map_cons, List.cons.injEq] at h
    intro x hx
    rcases List.mem_cons.1 hx with rfl | hx
    · exact h.1
    · exact ih h.2 x hx
def T : Tab Try.prog := ⟨tyRows, fun t i hm => by
  have h1 := map_at ty_desc (t, i) hm
  have h2 := map_at ty_info (t, i) hm
  dsimp only at h1 h2
  refine ⟨h1, ?_⟩
  cases hq : Try.prog.info? t with
  | none => rw [hq] at h2; cases h2
  | some ti =>
    rw [hq] at h2
    simp only [Option.map_some, Option.some.injEq, Prod.mk.injEq] at h2
    obtain ⟨h3, h4, h5⟩ := h2
    cases hz : ti.zero with
    | none => rw [hz] at h5; cases h5
    | some z =>
      rw [hz] at h5
      simp only [Option.map_some, Option.some.injEq] at h5
      exact ⟨ti, z, rfl, h3, h4, hz, h5⟩⟩
end Go.Proofs.Ytgmegfmabkkaoaa

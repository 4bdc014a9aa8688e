/- What is known of the program's types: each row by the kernel. -/
import Derived.Test.YtdjjlpgphkbehaaProg
import Derived.Test.YtdjjlpgphkbehaaSx8
namespace Go.Proofs.Ytdjjlpgphkbehaa
open Go Go.Sx Go.Sx.Chunk
def tyRows : List (Nat × TyI) := [
  (1, ⟨.func #[] #[] false, 1, 8, [.nilFunc]⟩),
  (2, ⟨.int .i64, 1, 8, [.int .i64 0]⟩),
  (3, ⟨.int .i64, 1, 8, [.int .i64 0]⟩),
  (4, ⟨.bool, 1, 1, [.bool false]⟩),
  (5, ⟨.int .u8, 1, 1, [.int .u8 0]⟩),
  (6, ⟨.int .u8, 1, 1, [.int .u8 0]⟩),
  (7, ⟨.struct #[⟨"x", 2, 0, false, "", "runtime", 0⟩, ⟨"y", 3, 1, false, "", "runtime", 8⟩, ⟨"signed", 4, 2, false, "", "runtime", 16⟩, ⟨"code", 6, 3, false, "", "runtime", 17⟩], 4, 24, [.int .i64 0, .int .i64 0, .bool false, .int .u8 0]⟩),
  (8, ⟨.struct #[⟨"x", 2, 0, false, "", "runtime", 0⟩, ⟨"y", 3, 1, false, "", "runtime", 8⟩, ⟨"signed", 4, 2, false, "", "runtime", 16⟩, ⟨"code", 6, 3, false, "", "runtime", 17⟩], 4, 24, [.int .i64 0, .int .i64 0, .bool false, .int .u8 0]⟩),
  (9, ⟨.string, 1, 16, [.string .empty]⟩),
  (10, ⟨.string, 1, 16, [.string .empty]⟩),
  (11, ⟨.string, 1, 16, [.string .empty]⟩),
  (12, ⟨.int .u64, 1, 8, [.int .u64 0]⟩),
  (13, ⟨.struct #[⟨"msg", 9, 0, false, "", "runtime", 0⟩, ⟨"addr", 12, 1, false, "", "runtime", 16⟩], 2, 24, [.string .empty, .int .u64 0]⟩),
  (14, ⟨.struct #[⟨"msg", 9, 0, false, "", "runtime", 0⟩, ⟨"addr", 12, 1, false, "", "runtime", 16⟩], 2, 24, [.string .empty, .int .u64 0]⟩),
  (15, ⟨.pointer 54, 1, 8, [.pointer none]⟩),
  (16, ⟨.pointer 57, 1, 8, [.pointer none]⟩),
  (17, ⟨.pointer 66, 1, 8, [.pointer none]⟩),
  (18, ⟨.struct #[⟨"typ", 17, 0, false, "", "internal/runtime/maps", 0⟩], 1, 8, [.pointer none]⟩),
  (19, ⟨.struct #[⟨"typ", 17, 0, false, "", "internal/runtime/maps", 0⟩], 1, 8, [.pointer none]⟩),
  (21, ⟨.int .i32, 1, 4, [.int .i32 0]⟩),
  (22, ⟨.slice 9, 1, 24, [.slice none 0 0]⟩),
  (23, ⟨.func #[] #[4] false, 1, 8, [.nilFunc]⟩),
  (24, ⟨.slice 51, 1, 24, [.slice none 0 0]⟩),
  (25, ⟨.slice 3, 1, 24, [.slice none 0 0]⟩),
  (26, ⟨.struct #[⟨"entries", 24, 0, false, "", "delayslot/scope", 0⟩, ⟨"begins", 25, 1, false, "", "delayslot/scope", 24⟩], 2, 48, [.slice none 0 0, .slice none 0 0]⟩),
  (27, ⟨.struct #[⟨"entries", 24, 0, false, "", "delayslot/scope", 0⟩, ⟨"begins", 25, 1, false, "", "delayslot/scope", 24⟩], 2, 48, [.slice none 0 0, .slice none 0 0]⟩),
  (28, ⟨.func #[9, 3] #[4] false, 1, 8, [.nilFunc]⟩),
  (30, ⟨.func #[9] #[3, 3, 4] false, 1, 8, [.nilFunc]⟩),
  (31, ⟨.func #[] #[3] false, 1, 8, [.nilFunc]⟩),
  (32, ⟨.func #[22, 22, 9] #[4] false, 1, 8, [.nilFunc]⟩),
  (33, ⟨.func #[5, 9] #[4] false, 1, 8, [.nilFunc]⟩),
  (34, ⟨.slice 37, 1, 24, [.slice none 0 0]⟩),
  (35, ⟨.slice 41, 1, 24, [.slice none 0 0]⟩),
  (36, ⟨.struct #[⟨"Kind", 3, 0, false, "", "", 0⟩, ⟨"Name", 9, 1, false, "", "", 8⟩, ⟨"V", 3, 2, false, "", "", 24⟩], 3, 32, [.int .i64 0, .string .empty, .int .i64 0]⟩),
  (37, ⟨.struct #[⟨"Kind", 3, 0, false, "", "", 0⟩, ⟨"Name", 9, 1, false, "", "", 8⟩, ⟨"V", 3, 2, false, "", "", 24⟩], 3, 32, [.int .i64 0, .string .empty, .int .i64 0]⟩),
  (38, ⟨.func #[35, 3] #[35] false, 1, 8, [.nilFunc]⟩),
  (39, ⟨.func #[35, 9] #[3] false, 1, 8, [.nilFunc]⟩),
  (40, ⟨.struct #[⟨"Name", 9, 0, false, "", "", 0⟩, ⟨"V", 3, 1, false, "", "", 16⟩, ⟨"Depth", 3, 2, false, "", "", 24⟩], 3, 32, [.string .empty, .int .i64 0, .int .i64 0]⟩),
  (41, ⟨.struct #[⟨"Name", 9, 0, false, "", "", 0⟩, ⟨"V", 3, 1, false, "", "", 16⟩, ⟨"Depth", 3, 2, false, "", "", 24⟩], 3, 32, [.string .empty, .int .i64 0, .int .i64 0]⟩),
  (42, ⟨.func #[43, 35, 9, 3] #[4] false, 1, 8, [.nilFunc]⟩),
  (43, ⟨.pointer 27, 1, 8, [.pointer none]⟩),
  (44, ⟨.func #[43, 35, 3] #[4] false, 1, 8, [.nilFunc]⟩),
  (45, ⟨.func #[34, 9] #[4] false, 1, 8, [.nilFunc]⟩),
  (46, ⟨.func #[28] #[] false, 1, 8, [.nilFunc]⟩),
  (47, ⟨.func #[28] #[] false, 1, 8, [.nilFunc]⟩),
  (48, ⟨.func #[] #[47] false, 1, 8, [.nilFunc]⟩),
  (49, ⟨.func #[22, 5] #[4] false, 1, 8, [.nilFunc]⟩),
  (50, ⟨.struct #[⟨"name", 9, 0, false, "", "delayslot/scope", 0⟩, ⟨"value", 3, 1, false, "", "delayslot/scope", 16⟩], 2, 24, [.string .empty, .int .i64 0]⟩),
  (51, ⟨.struct #[⟨"name", 9, 0, false, "", "delayslot/scope", 0⟩, ⟨"value", 3, 1, false, "", "delayslot/scope", 16⟩], 2, 24, [.string .empty, .int .i64 0]⟩),
  (52, ⟨.func #[] #[9] false, 1, 8, [.nilFunc]⟩),
  (53, ⟨.struct #[⟨"_interface", 17, 0, false, "", "runtime", 0⟩, ⟨"concrete", 17, 1, false, "", "runtime", 8⟩, ⟨"asserted", 17, 2, false, "", "runtime", 16⟩, ⟨"missingMethod", 9, 3, false, "", "runtime", 24⟩], 4, 40, [.pointer none, .pointer none, .pointer none, .string .empty]⟩),
  (54, ⟨.struct #[⟨"_interface", 17, 0, false, "", "runtime", 0⟩, ⟨"concrete", 17, 1, false, "", "runtime", 8⟩, ⟨"asserted", 17, 2, false, "", "runtime", 16⟩, ⟨"missingMethod", 9, 3, false, "", "runtime", 24⟩], 4, 40, [.pointer none, .pointer none, .pointer none, .string .empty]⟩),
  (55, ⟨.array 0 16, 0, 0, []⟩),
  (56, ⟨.struct #[⟨"_", 55, 0, false, "", "runtime", 0⟩], 0, 0, []⟩),
  (57, ⟨.struct #[⟨"_", 55, 0, false, "", "runtime", 0⟩], 0, 0, []⟩),
  (58, ⟨.int .u32, 1, 4, [.int .u32 0]⟩),
  (59, ⟨.int .u8, 1, 1, [.int .u8 0]⟩),
  (60, ⟨.int .u8, 1, 1, [.int .u8 0]⟩),
  (61, ⟨.func #[67, 67] #[4] false, 1, 8, [.nilFunc]⟩),
  (62, ⟨.pointer 5, 1, 8, [.pointer none]⟩),
  (63, ⟨.int .i32, 1, 4, [.int .i32 0]⟩),
  (64, ⟨.int .i32, 1, 4, [.int .i32 0]⟩),
  (65, ⟨.struct #[⟨"Size_", 12, 0, false, "", "", 0⟩, ⟨"PtrBytes", 12, 1, false, "", "", 8⟩, ⟨"Hash", 58, 2, false, "", "", 16⟩, ⟨"TFlag", 59, 3, false, "", "", 20⟩, ⟨"Align_", 5, 4, false, "", "", 21⟩, ⟨"FieldAlign_", 5, 5, false, "", "", 22⟩, ⟨"Kind_", 60, 6, false, "", "", 23⟩, ⟨"Equal", 61, 7, false, "", "", 24⟩, ⟨"GCData", 62, 8, false, "", "", 32⟩, ⟨"Str", 63, 9, false, "", "", 40⟩, ⟨"PtrToThis", 64, 10, false, "", "", 44⟩], 11, 48, [.int .u64 0, .int .u64 0, .int .u32 0, .int .u8 0, .int .u8 0, .int .u8 0, .int .u8 0, .nilFunc, .pointer none, .int .i32 0, .int .i32 0]⟩),
  (66, ⟨.struct #[⟨"Size_", 12, 0, false, "", "", 0⟩, ⟨"PtrBytes", 12, 1, false, "", "", 8⟩, ⟨"Hash", 58, 2, false, "", "", 16⟩, ⟨"TFlag", 59, 3, false, "", "", 20⟩, ⟨"Align_", 5, 4, false, "", "", 21⟩, ⟨"FieldAlign_", 5, 5, false, "", "", 22⟩, ⟨"Kind_", 60, 6, false, "", "", 23⟩, ⟨"Equal", 61, 7, false, "", "", 24⟩, ⟨"GCData", 62, 8, false, "", "", 32⟩, ⟨"Str", 63, 9, false, "", "", 40⟩, ⟨"PtrToThis", 64, 10, false, "", "", 44⟩], 11, 48, [.int .u64 0, .int .u64 0, .int .u32 0, .int .u8 0, .int .u8 0, .int .u8 0, .int .u8 0, .nilFunc, .pointer none, .int .i32 0, .int .i32 0]⟩)]
theorem ty_desc : tyRows.map (fun e => Try.prog.underlying e.1) = tyRows.map (fun e => some e.2.desc) := by kernel_rfl
theorem ty_info : tyRows.map (fun e => (Try.prog.info? e.1).map fun i => (i.size, i.bytes, i.zero.map (·.cells))) = tyRows.map (fun e => some (e.2.size, e.2.bytes, some e.2.zero.toArray)) := by kernel_rfl
theorem map_at {α β : Type} {f g : α → β} {l : List α} (h : l.map f = l.map g) : ∀ x ∈ l, f x = g x := by
  induction l with
  | nil => intro x hx; simp at hx
  | cons y l ih =>
    simp only [List.map_cons, List.cons.injEq] at h
    intro x hx
    rcases List.mem_cons.1 hx with rfl | hx
    · exact h.1
    · exact ih h.2 x hx
def T : Tab Try.prog := ⟨tyRows, fun t i hm => by
  have h1 := map_at ty_desc (t, i) hm
  have h2 := map_at ty_info (t, i) hm
  dsimp only at h1 h2
  refine ⟨h1, ?_⟩
  cases hq : Try.prog.info? t with
  | none => rw [hq] at h2; cases h2
  | some ti =>
    rw [hq] at h2
    simp only [Option.map_some, Option.some.injEq, Prod.mk.injEq] at h2
    obtain ⟨h3, h4, h5⟩ := h2
    cases hz : ti.zero with
    | none => rw [hz] at h5; cases h5
    | some z =>
      rw [hz] at h5
      simp only [Option.map_some, Option.some.injEq] at h5
      exact ⟨ti, z, rfl, h3, h4, hz, h5⟩⟩
end Go.Proofs.Ytdjjlpgphkbehaa

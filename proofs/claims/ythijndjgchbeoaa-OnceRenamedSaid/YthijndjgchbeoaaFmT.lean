/-
  The types of this dump, for the machine of plain values (printed by wip/fmty.py, checked by the kernel).
-/
import Derived.Test.YthijndjgchbeoaaFmL
import Derived.Test.YthijndjgchbeoaaProg
namespace Go.Proofs.Ythijndjgchbeoaa
set_option maxRecDepth 100000
def tyTbl : List (Nat × TS) := [
  (3, ⟨.int .i64, 1, 8, [.int .i64 0]⟩),
  (4, ⟨.bool, 1, 1, [.bool false]⟩),
  (2, ⟨.int .i64, 1, 8, [.int .i64 0]⟩),
  (5, ⟨.int .u8, 1, 1, [.int .u8 0]⟩),
  (6, ⟨.int .u8, 1, 1, [.int .u8 0]⟩),
  (7, ⟨.strct [(0, 2), (1, 3), (2, 4), (3, 6)], 4, 24, [.int .i64 0, .int .i64 0, .bool false, .int .u8 0]⟩),
  (8, ⟨.strct [(0, 2), (1, 3), (2, 4), (3, 6)], 4, 24, [.int .i64 0, .int .i64 0, .bool false, .int .u8 0]⟩),
  (9, ⟨.str, 1, 16, [.str ByteArray.empty]⟩),
  (10, ⟨.str, 1, 16, [.str ByteArray.empty]⟩),
  (11, ⟨.str, 1, 16, [.str ByteArray.empty]⟩),
  (12, ⟨.int .u64, 1, 8, [.int .u64 0]⟩),
  (13, ⟨.strct [(0, 9), (1, 12)], 2, 24, [.str ByteArray.empty, .int .u64 0]⟩),
  (14, ⟨.strct [(0, 9), (1, 12)], 2, 24, [.str ByteArray.empty, .int .u64 0]⟩),
  (15, ⟨.any, 1, 8, [.undef]⟩),
  (16, ⟨.any, 1, 8, [.undef]⟩),
  (17, ⟨.any, 1, 8, [.undef]⟩),
  (18, ⟨.strct [(0, 17)], 1, 8, [.undef]⟩),
  (19, ⟨.strct [(0, 17)], 1, 8, [.undef]⟩),
  (21, ⟨.int .i32, 1, 4, [.int .i32 0]⟩),
  (22, ⟨.slice 3, 1, 24, [.nil]⟩),
  (23, ⟨.slice 35, 1, 24, [.nil]⟩),
  (24, ⟨.slice 37, 1, 24, [.nil]⟩),
  (28, ⟨.slice 33, 1, 24, [.nil]⟩),
  (32, ⟨.strct [(0, 3), (1, 3), (2, 3), (3, 3), (4, 3), (5, 3), (6, 3), (7, 4)], 8, 64, [.int .i64 0, .int .i64 0, .int .i64 0, .int .i64 0, .int .i64 0, .int .i64 0, .int .i64 0, .bool false]⟩),
  (33, ⟨.strct [(0, 3), (1, 3), (2, 3), (3, 3), (4, 3), (5, 3), (6, 3), (7, 4)], 8, 64, [.int .i64 0, .int .i64 0, .int .i64 0, .int .i64 0, .int .i64 0, .int .i64 0, .int .i64 0, .bool false]⟩),
  (34, ⟨.strct [(0, 4), (1, 3), (2, 3), (3, 3), (4, 3)], 5, 40, [.bool false, .int .i64 0, .int .i64 0, .int .i64 0, .int .i64 0]⟩),
  (35, ⟨.strct [(0, 4), (1, 3), (2, 3), (3, 3), (4, 3)], 5, 40, [.bool false, .int .i64 0, .int .i64 0, .int .i64 0, .int .i64 0]⟩),
  (36, ⟨.strct [(0, 3), (1, 3), (2, 3), (3, 3)], 4, 32, [.int .i64 0, .int .i64 0, .int .i64 0, .int .i64 0]⟩),
  (37, ⟨.strct [(0, 3), (1, 3), (2, 3), (3, 3)], 4, 32, [.int .i64 0, .int .i64 0, .int .i64 0, .int .i64 0]⟩),
  (38, ⟨.int .i64, 1, 8, [.int .i64 0]⟩),
  (43, ⟨.slice 28, 1, 24, [.nil]⟩),
  (46, ⟨.arr 3 3, 3, 24, [.int .i64 0, .int .i64 0, .int .i64 0]⟩),
  (48, ⟨.slice 116, 1, 24, [.nil]⟩),
  (49, ⟨.strct [(0, 22), (1, 48)], 2, 48, [.nil, .nil]⟩),
  (50, ⟨.strct [(0, 22), (1, 48)], 2, 48, [.nil, .nil]⟩),
  (51, ⟨.strct [(0, 3), (1, 3), (2, 3), (3, 50)], 5, 72, [.int .i64 0, .int .i64 0, .int .i64 0, .nil, .nil]⟩),
  (52, ⟨.strct [(0, 3), (1, 3), (2, 3), (3, 50)], 5, 72, [.int .i64 0, .int .i64 0, .int .i64 0, .nil, .nil]⟩),
  (67, ⟨.map 3 3, 1, 8, [.undef]⟩),
  (68, ⟨.any, 1, 8, [.undef]⟩),
  (69, ⟨.map 3 70, 1, 8, [.undef]⟩),
  (70, ⟨.strct [], 0, 0, []⟩),
  (71, ⟨.map 3 33, 1, 8, [.undef]⟩),
  (76, ⟨.map 80 3, 1, 8, [.undef]⟩),
  (79, ⟨.strct [(0, 3), (1, 3)], 2, 16, [.int .i64 0, .int .i64 0]⟩),
  (80, ⟨.strct [(0, 3), (1, 3)], 2, 16, [.int .i64 0, .int .i64 0]⟩),
  (87, ⟨.map 80 4, 1, 8, [.undef]⟩),
  (88, ⟨.slice 4, 1, 24, [.nil]⟩),
  (89, ⟨.slice 22, 1, 24, [.nil]⟩),
  (91, ⟨.slice 95, 1, 24, [.nil]⟩),
  (94, ⟨.strct [(0, 3), (1, 4), (2, 3)], 3, 24, [.int .i64 0, .bool false, .int .i64 0]⟩),
  (95, ⟨.strct [(0, 3), (1, 4), (2, 3)], 3, 24, [.int .i64 0, .bool false, .int .i64 0]⟩),
  (100, ⟨.strct [(0, 17), (1, 17), (2, 17), (3, 9)], 4, 40, [.undef, .undef, .undef, .str ByteArray.empty]⟩),
  (101, ⟨.strct [(0, 17), (1, 17), (2, 17), (3, 9)], 4, 40, [.undef, .undef, .undef, .str ByteArray.empty]⟩),
  (102, ⟨.arr 0 16, 0, 0, []⟩),
  (106, ⟨.int .u32, 1, 4, [.int .u32 0]⟩),
  (107, ⟨.int .u8, 1, 1, [.int .u8 0]⟩),
  (108, ⟨.int .u8, 1, 1, [.int .u8 0]⟩),
  (110, ⟨.any, 1, 8, [.undef]⟩),
  (111, ⟨.int .i32, 1, 4, [.int .i32 0]⟩),
  (112, ⟨.int .i32, 1, 4, [.int .i32 0]⟩),
  (113, ⟨.strct [(0, 12), (1, 12), (2, 106), (3, 107), (4, 5), (5, 5), (6, 108), (7, 109), (8, 110), (9, 111), (10, 112)], 11, 48, [.int .u64 0, .int .u64 0, .int .u32 0, .int .u8 0, .int .u8 0, .int .u8 0, .int .u8 0, .undef, .undef, .int .i32 0, .int .i32 0]⟩),
  (114, ⟨.strct [(0, 12), (1, 12), (2, 106), (3, 107), (4, 5), (5, 5), (6, 108), (7, 109), (8, 110), (9, 111), (10, 112)], 11, 48, [.int .u64 0, .int .u64 0, .int .u32 0, .int .u8 0, .int .u8 0, .int .u8 0, .int .u8 0, .undef, .undef, .int .i32 0, .int .i32 0]⟩),
  (115, ⟨.strct [(0, 3), (1, 3), (2, 3)], 3, 24, [.int .i64 0, .int .i64 0, .int .i64 0]⟩),
  (116, ⟨.strct [(0, 3), (1, 3), (2, 3)], 3, 24, [.int .i64 0, .int .i64 0, .int .i64 0]⟩)]
def tyAt (T : Nat) : TS := look {} tyTbl T
theorem tyTbl_all : tyTbl.all (fun p => match p.2.k with | .other => true | _ => tsCheck Try.prog p.1 p.2) = true := by kernel_rfl
theorem look_all {α : Type} {d : α} {q : Nat → α → Bool} (hd : ∀ T, q T d = true) : ∀ (l : List (Nat × α)), l.all (fun p => q p.1 p.2) = true → ∀ T, q T (look d l T) = true
  | [], _, T => hd T
  | (i, a) :: l, h, T => by
    rw [List.all_cons, Bool.and_eq_true] at h
    rw [look_cons]
    split
    · rename_i e; subst e; exact h.1
    · exact look_all hd l h.2 T
theorem tyAt_ok (T : Nat) : (match (tyAt T).k with | .other => true | _ => tsCheck Try.prog T (tyAt T)) = true :=
  look_all (q := fun T ts => match ts.k with | .other => true | _ => tsCheck Try.prog T ts) (fun _ => rfl) tyTbl tyTbl_all T
theorem mixed_ok : Try.prog.follows .mixedOrders = true := by kernel_rfl
/-- the context of a function with so many slots -/
def cxOf (P : Program) (h1 : ∀ T, (match (tyAt T).k with | .other => true | _ => tsCheck P T (tyAt T)) = true) (h2 : P.follows .mixedOrders = true) (N : Nat) : Ctx := ⟨P, N, tyAt, h1, h2⟩
end Go.Proofs.Ythijndjgchbeoaa

/-
  THE LAYOUTS OF THE TYPES OF THIS SEAT's PROGRAM, each held against the program by the kernel. Printed by this session's genlay.py.
-/
import Derived.Test.YtmpddomgiplnmaaDoorProg
import Derived.Test.YtmpddomgiplnmaaDoorX3
import Derived.KernelRfl
namespace Go.Proofs.YtmpddomgiplnmaaDoor.Abs
open Go

def lay1 : Lay := ⟨.fn, 1, 8, [.nilFunc]⟩
theorem lay1_ok : LayOk1 Tryd.prog 1 lay1 := ⟨by kernel_rfl, by kernel_rfl⟩
def lay2 : Lay := ⟨.int .i64, 1, 8, [.int .i64 0]⟩
theorem lay2_ok : LayOk1 Tryd.prog 2 lay2 := ⟨by kernel_rfl, by kernel_rfl⟩
def lay3 : Lay := ⟨.int .i64, 1, 8, [.int .i64 0]⟩
theorem lay3_ok : LayOk1 Tryd.prog 3 lay3 := ⟨by kernel_rfl, by kernel_rfl⟩
def lay4 : Lay := ⟨.bool, 1, 1, [.bool false]⟩
theorem lay4_ok : LayOk1 Tryd.prog 4 lay4 := ⟨by kernel_rfl, by kernel_rfl⟩
def lay5 : Lay := ⟨.int .u8, 1, 1, [.int .u8 0]⟩
theorem lay5_ok : LayOk1 Tryd.prog 5 lay5 := ⟨by kernel_rfl, by kernel_rfl⟩
def lay9 : Lay := ⟨.str, 1, 16, [.string .empty]⟩
theorem lay9_ok : LayOk1 Tryd.prog 9 lay9 := ⟨by kernel_rfl, by kernel_rfl⟩
def lay12 : Lay := ⟨.int .u64, 1, 8, [.int .u64 0]⟩
theorem lay12_ok : LayOk1 Tryd.prog 12 lay12 := ⟨by kernel_rfl, by kernel_rfl⟩
def lay21 : Lay := ⟨.int .i32, 1, 4, [.int .i32 0]⟩
theorem lay21_ok : LayOk1 Tryd.prog 21 lay21 := ⟨by kernel_rfl, by kernel_rfl⟩
def lay22 : Lay := ⟨.sl 40, 1, 24, [.slice none 0 0]⟩
theorem lay22_ok : LayOk1 Tryd.prog 22 lay22 := ⟨by kernel_rfl, by kernel_rfl⟩
def lay23 : Lay := ⟨.st [(0, 3), (1, 3), (2, 22)], 3, 40, [.int .i64 0, .int .i64 0, .slice none 0 0]⟩
theorem lay23_ok : LayOk1 Tryd.prog 23 lay23 := ⟨by kernel_rfl, by kernel_rfl⟩
def lay24 : Lay := ⟨.st [(0, 3), (1, 3), (2, 22)], 3, 40, [.int .i64 0, .int .i64 0, .slice none 0 0]⟩
theorem lay24_ok : LayOk1 Tryd.prog 24 lay24 := ⟨by kernel_rfl, by kernel_rfl⟩
def lay25 : Lay := ⟨.fn, 1, 8, [.nilFunc]⟩
theorem lay25_ok : LayOk1 Tryd.prog 25 lay25 := ⟨by kernel_rfl, by kernel_rfl⟩
def lay26 : Lay := ⟨.int .i64, 1, 8, [.int .i64 0]⟩
theorem lay26_ok : LayOk1 Tryd.prog 26 lay26 := ⟨by kernel_rfl, by kernel_rfl⟩
def lay28 : Lay := ⟨.fn, 1, 8, [.nilFunc]⟩
theorem lay28_ok : LayOk1 Tryd.prog 28 lay28 := ⟨by kernel_rfl, by kernel_rfl⟩
def lay30 : Lay := ⟨.fn, 1, 8, [.nilFunc]⟩
theorem lay30_ok : LayOk1 Tryd.prog 30 lay30 := ⟨by kernel_rfl, by kernel_rfl⟩
def lay31 : Lay := ⟨.fn, 1, 8, [.nilFunc]⟩
theorem lay31_ok : LayOk1 Tryd.prog 31 lay31 := ⟨by kernel_rfl, by kernel_rfl⟩
def lay32 : Lay := ⟨.fn, 1, 8, [.nilFunc]⟩
theorem lay32_ok : LayOk1 Tryd.prog 32 lay32 := ⟨by kernel_rfl, by kernel_rfl⟩
def lay33 : Lay := ⟨.fn, 1, 8, [.nilFunc]⟩
theorem lay33_ok : LayOk1 Tryd.prog 33 lay33 := ⟨by kernel_rfl, by kernel_rfl⟩
def lay34 : Lay := ⟨.fn, 1, 8, [.nilFunc]⟩
theorem lay34_ok : LayOk1 Tryd.prog 34 lay34 := ⟨by kernel_rfl, by kernel_rfl⟩
def lay36 : Lay := ⟨.fn, 1, 8, [.nilFunc]⟩
theorem lay36_ok : LayOk1 Tryd.prog 36 lay36 := ⟨by kernel_rfl, by kernel_rfl⟩
def lay37 : Lay := ⟨.fn, 1, 8, [.nilFunc]⟩
theorem lay37_ok : LayOk1 Tryd.prog 37 lay37 := ⟨by kernel_rfl, by kernel_rfl⟩
def lay38 : Lay := ⟨.sl 2, 1, 24, [.slice none 0 0]⟩
theorem lay38_ok : LayOk1 Tryd.prog 38 lay38 := ⟨by kernel_rfl, by kernel_rfl⟩
def lay39 : Lay := ⟨.st [(0, 3), (1, 38)], 2, 32, [.int .i64 0, .slice none 0 0]⟩
theorem lay39_ok : LayOk1 Tryd.prog 39 lay39 := ⟨by kernel_rfl, by kernel_rfl⟩
def lay40 : Lay := ⟨.st [(0, 3), (1, 38)], 2, 32, [.int .i64 0, .slice none 0 0]⟩
theorem lay40_ok : LayOk1 Tryd.prog 40 lay40 := ⟨by kernel_rfl, by kernel_rfl⟩
def lay41 : Lay := ⟨.fn, 1, 8, [.nilFunc]⟩
theorem lay41_ok : LayOk1 Tryd.prog 41 lay41 := ⟨by kernel_rfl, by kernel_rfl⟩
def lay42 : Lay := ⟨.fn, 1, 8, [.nilFunc]⟩
theorem lay42_ok : LayOk1 Tryd.prog 42 lay42 := ⟨by kernel_rfl, by kernel_rfl⟩
def lay43 : Lay := ⟨.fn, 1, 8, [.nilFunc]⟩
theorem lay43_ok : LayOk1 Tryd.prog 43 lay43 := ⟨by kernel_rfl, by kernel_rfl⟩
def lay44 : Lay := ⟨.fn, 1, 8, [.nilFunc]⟩
theorem lay44_ok : LayOk1 Tryd.prog 44 lay44 := ⟨by kernel_rfl, by kernel_rfl⟩
def lay45 : Lay := ⟨.fn, 1, 8, [.nilFunc]⟩
theorem lay45_ok : LayOk1 Tryd.prog 45 lay45 := ⟨by kernel_rfl, by kernel_rfl⟩
def lay46 : Lay := ⟨.fn, 1, 8, [.nilFunc]⟩
theorem lay46_ok : LayOk1 Tryd.prog 46 lay46 := ⟨by kernel_rfl, by kernel_rfl⟩
def lay47 : Lay := ⟨.st [(0, 9), (1, 3)], 2, 24, [.string .empty, .int .i64 0]⟩
theorem lay47_ok : LayOk1 Tryd.prog 47 lay47 := ⟨by kernel_rfl, by kernel_rfl⟩
def lay48 : Lay := ⟨.st [(0, 9), (1, 3)], 2, 24, [.string .empty, .int .i64 0]⟩
theorem lay48_ok : LayOk1 Tryd.prog 48 lay48 := ⟨by kernel_rfl, by kernel_rfl⟩
def lay49 : Lay := ⟨.map 3 48, 1, 8, [.map none]⟩
theorem lay49_ok : LayOk1 Tryd.prog 49 lay49 := ⟨by kernel_rfl, by kernel_rfl⟩
def lay50 : Lay := ⟨.fn, 1, 8, [.nilFunc]⟩
theorem lay50_ok : LayOk1 Tryd.prog 50 lay50 := ⟨by kernel_rfl, by kernel_rfl⟩
def lay52 : Lay := ⟨.fn, 1, 8, [.nilFunc]⟩
theorem lay52_ok : LayOk1 Tryd.prog 52 lay52 := ⟨by kernel_rfl, by kernel_rfl⟩
def lay54 : Lay := ⟨.fn, 1, 8, [.nilFunc]⟩
theorem lay54_ok : LayOk1 Tryd.prog 54 lay54 := ⟨by kernel_rfl, by kernel_rfl⟩
def lay56 : Lay := ⟨.fn, 1, 8, [.nilFunc]⟩
theorem lay56_ok : LayOk1 Tryd.prog 56 lay56 := ⟨by kernel_rfl, by kernel_rfl⟩
def lay57 : Lay := ⟨.fn, 1, 8, [.nilFunc]⟩
theorem lay57_ok : LayOk1 Tryd.prog 57 lay57 := ⟨by kernel_rfl, by kernel_rfl⟩
def lay58 : Lay := ⟨.fn, 1, 8, [.nilFunc]⟩
theorem lay58_ok : LayOk1 Tryd.prog 58 lay58 := ⟨by kernel_rfl, by kernel_rfl⟩
def lay59 : Lay := ⟨.fn, 1, 8, [.nilFunc]⟩
theorem lay59_ok : LayOk1 Tryd.prog 59 lay59 := ⟨by kernel_rfl, by kernel_rfl⟩
def lay60 : Lay := ⟨.fn, 1, 8, [.nilFunc]⟩
theorem lay60_ok : LayOk1 Tryd.prog 60 lay60 := ⟨by kernel_rfl, by kernel_rfl⟩
def lay61 : Lay := ⟨.fn, 1, 8, [.nilFunc]⟩
theorem lay61_ok : LayOk1 Tryd.prog 61 lay61 := ⟨by kernel_rfl, by kernel_rfl⟩
def lay62 : Lay := ⟨.fn, 1, 8, [.nilFunc]⟩
theorem lay62_ok : LayOk1 Tryd.prog 62 lay62 := ⟨by kernel_rfl, by kernel_rfl⟩
def lay63 : Lay := ⟨.fn, 1, 8, [.nilFunc]⟩
theorem lay63_ok : LayOk1 Tryd.prog 63 lay63 := ⟨by kernel_rfl, by kernel_rfl⟩
def lay64 : Lay := ⟨.fn, 1, 8, [.nilFunc]⟩
theorem lay64_ok : LayOk1 Tryd.prog 64 lay64 := ⟨by kernel_rfl, by kernel_rfl⟩
def lay65 : Lay := ⟨.fn, 1, 8, [.nilFunc]⟩
theorem lay65_ok : LayOk1 Tryd.prog 65 lay65 := ⟨by kernel_rfl, by kernel_rfl⟩
def lay66 : Lay := ⟨.sl 9, 1, 24, [.slice none 0 0]⟩
theorem lay66_ok : LayOk1 Tryd.prog 66 lay66 := ⟨by kernel_rfl, by kernel_rfl⟩
def lay67 : Lay := ⟨.fn, 1, 8, [.nilFunc]⟩
theorem lay67_ok : LayOk1 Tryd.prog 67 lay67 := ⟨by kernel_rfl, by kernel_rfl⟩
def lay68 : Lay := ⟨.fn, 1, 8, [.nilFunc]⟩
theorem lay68_ok : LayOk1 Tryd.prog 68 lay68 := ⟨by kernel_rfl, by kernel_rfl⟩
def lay69 : Lay := ⟨.fn, 1, 8, [.nilFunc]⟩
theorem lay69_ok : LayOk1 Tryd.prog 69 lay69 := ⟨by kernel_rfl, by kernel_rfl⟩
def lay70 : Lay := ⟨.fn, 1, 8, [.nilFunc]⟩
theorem lay70_ok : LayOk1 Tryd.prog 70 lay70 := ⟨by kernel_rfl, by kernel_rfl⟩
def lay72 : Lay := ⟨.fn, 1, 8, [.nilFunc]⟩
theorem lay72_ok : LayOk1 Tryd.prog 72 lay72 := ⟨by kernel_rfl, by kernel_rfl⟩
def lay73 : Lay := ⟨.fn, 1, 8, [.nilFunc]⟩
theorem lay73_ok : LayOk1 Tryd.prog 73 lay73 := ⟨by kernel_rfl, by kernel_rfl⟩
def lay74 : Lay := ⟨.fn, 1, 8, [.nilFunc]⟩
theorem lay74_ok : LayOk1 Tryd.prog 74 lay74 := ⟨by kernel_rfl, by kernel_rfl⟩
def lay75 : Lay := ⟨.sl 3, 1, 24, [.slice none 0 0]⟩
theorem lay75_ok : LayOk1 Tryd.prog 75 lay75 := ⟨by kernel_rfl, by kernel_rfl⟩
def lay76 : Lay := ⟨.sl 5, 1, 24, [.slice none 0 0]⟩
theorem lay76_ok : LayOk1 Tryd.prog 76 lay76 := ⟨by kernel_rfl, by kernel_rfl⟩
def lay77 : Lay := ⟨.fn, 1, 8, [.nilFunc]⟩
theorem lay77_ok : LayOk1 Tryd.prog 77 lay77 := ⟨by kernel_rfl, by kernel_rfl⟩
def lay79 : Lay := ⟨.fn, 1, 8, [.nilFunc]⟩
theorem lay79_ok : LayOk1 Tryd.prog 79 lay79 := ⟨by kernel_rfl, by kernel_rfl⟩
def lay80 : Lay := ⟨.fn, 1, 8, [.nilFunc]⟩
theorem lay80_ok : LayOk1 Tryd.prog 80 lay80 := ⟨by kernel_rfl, by kernel_rfl⟩
def lay81 : Lay := ⟨.int .u64, 1, 8, [.int .u64 0]⟩
theorem lay81_ok : LayOk1 Tryd.prog 81 lay81 := ⟨by kernel_rfl, by kernel_rfl⟩
def lay82 : Lay := ⟨.arr 24 5, 24, 24, [.int .u8 0, .int .u8 0, .int .u8 0, .int .u8 0, .int .u8 0, .int .u8 0, .int .u8 0, .int .u8 0, .int .u8 0, .int .u8 0, .int .u8 0, .int .u8 0, .int .u8 0, .int .u8 0, .int .u8 0, .int .u8 0, .int .u8 0, .int .u8 0, .int .u8 0, .int .u8 0, .int .u8 0, .int .u8 0, .int .u8 0, .int .u8 0]⟩
theorem lay82_ok : LayOk1 Tryd.prog 82 lay82 := ⟨by kernel_rfl, by kernel_rfl⟩
def lay83 : Lay := ⟨.int .u64, 1, 8, [.int .u64 0]⟩
theorem lay83_ok : LayOk1 Tryd.prog 83 lay83 := ⟨by kernel_rfl, by kernel_rfl⟩
def lay84 : Lay := ⟨.fn, 1, 8, [.nilFunc]⟩
theorem lay84_ok : LayOk1 Tryd.prog 84 lay84 := ⟨by kernel_rfl, by kernel_rfl⟩
def lay85 : Lay := ⟨.fn, 1, 8, [.nilFunc]⟩
theorem lay85_ok : LayOk1 Tryd.prog 85 lay85 := ⟨by kernel_rfl, by kernel_rfl⟩
def lay87 : Lay := ⟨.fn, 1, 8, [.nilFunc]⟩
theorem lay87_ok : LayOk1 Tryd.prog 87 lay87 := ⟨by kernel_rfl, by kernel_rfl⟩
def lay88 : Lay := ⟨.fn, 1, 8, [.nilFunc]⟩
theorem lay88_ok : LayOk1 Tryd.prog 88 lay88 := ⟨by kernel_rfl, by kernel_rfl⟩
def lay89 : Lay := ⟨.int .u32, 1, 4, [.int .u32 0]⟩
theorem lay89_ok : LayOk1 Tryd.prog 89 lay89 := ⟨by kernel_rfl, by kernel_rfl⟩
def lay91 : Lay := ⟨.fn, 1, 8, [.nilFunc]⟩
theorem lay91_ok : LayOk1 Tryd.prog 91 lay91 := ⟨by kernel_rfl, by kernel_rfl⟩
def lay92 : Lay := ⟨.fn, 1, 8, [.nilFunc]⟩
theorem lay92_ok : LayOk1 Tryd.prog 92 lay92 := ⟨by kernel_rfl, by kernel_rfl⟩
def lay93 : Lay := ⟨.arr 20 83, 20, 160, [.int .u64 0, .int .u64 0, .int .u64 0, .int .u64 0, .int .u64 0, .int .u64 0, .int .u64 0, .int .u64 0, .int .u64 0, .int .u64 0, .int .u64 0, .int .u64 0, .int .u64 0, .int .u64 0, .int .u64 0, .int .u64 0, .int .u64 0, .int .u64 0, .int .u64 0, .int .u64 0]⟩
theorem lay93_ok : LayOk1 Tryd.prog 93 lay93 := ⟨by kernel_rfl, by kernel_rfl⟩
def lay95 : Lay := ⟨.fn, 1, 8, [.nilFunc]⟩
theorem lay95_ok : LayOk1 Tryd.prog 95 lay95 := ⟨by kernel_rfl, by kernel_rfl⟩
def lay96 : Lay := ⟨.fn, 1, 8, [.nilFunc]⟩
theorem lay96_ok : LayOk1 Tryd.prog 96 lay96 := ⟨by kernel_rfl, by kernel_rfl⟩
def lay98 : Lay := ⟨.fn, 1, 8, [.nilFunc]⟩
theorem lay98_ok : LayOk1 Tryd.prog 98 lay98 := ⟨by kernel_rfl, by kernel_rfl⟩
def lay99 : Lay := ⟨.fn, 1, 8, [.nilFunc]⟩
theorem lay99_ok : LayOk1 Tryd.prog 99 lay99 := ⟨by kernel_rfl, by kernel_rfl⟩
def lay100 : Lay := ⟨.fn, 1, 8, [.nilFunc]⟩
theorem lay100_ok : LayOk1 Tryd.prog 100 lay100 := ⟨by kernel_rfl, by kernel_rfl⟩
def lay101 : Lay := ⟨.arr 32 5, 32, 32, [.int .u8 0, .int .u8 0, .int .u8 0, .int .u8 0, .int .u8 0, .int .u8 0, .int .u8 0, .int .u8 0, .int .u8 0, .int .u8 0, .int .u8 0, .int .u8 0, .int .u8 0, .int .u8 0, .int .u8 0, .int .u8 0, .int .u8 0, .int .u8 0, .int .u8 0, .int .u8 0, .int .u8 0, .int .u8 0, .int .u8 0, .int .u8 0, .int .u8 0, .int .u8 0, .int .u8 0, .int .u8 0, .int .u8 0, .int .u8 0, .int .u8 0, .int .u8 0]⟩
theorem lay101_ok : LayOk1 Tryd.prog 101 lay101 := ⟨by kernel_rfl, by kernel_rfl⟩
def lay104 : Lay := ⟨.st [(0, 5), (1, 5)], 2, 2, [.int .u8 0, .int .u8 0]⟩
theorem lay104_ok : LayOk1 Tryd.prog 104 lay104 := ⟨by kernel_rfl, by kernel_rfl⟩
def lay105 : Lay := ⟨.st [(0, 5), (1, 5)], 2, 2, [.int .u8 0, .int .u8 0]⟩
theorem lay105_ok : LayOk1 Tryd.prog 105 lay105 := ⟨by kernel_rfl, by kernel_rfl⟩
def lay106 : Lay := ⟨.arr 16 105, 32, 32, [.int .u8 0, .int .u8 0, .int .u8 0, .int .u8 0, .int .u8 0, .int .u8 0, .int .u8 0, .int .u8 0, .int .u8 0, .int .u8 0, .int .u8 0, .int .u8 0, .int .u8 0, .int .u8 0, .int .u8 0, .int .u8 0, .int .u8 0, .int .u8 0, .int .u8 0, .int .u8 0, .int .u8 0, .int .u8 0, .int .u8 0, .int .u8 0, .int .u8 0, .int .u8 0, .int .u8 0, .int .u8 0, .int .u8 0, .int .u8 0, .int .u8 0, .int .u8 0]⟩
theorem lay106_ok : LayOk1 Tryd.prog 106 lay106 := ⟨by kernel_rfl, by kernel_rfl⟩
def lay107 : Lay := ⟨.fn, 1, 8, [.nilFunc]⟩
theorem lay107_ok : LayOk1 Tryd.prog 107 lay107 := ⟨by kernel_rfl, by kernel_rfl⟩
def lay113 : Lay := ⟨.fn, 1, 8, [.nilFunc]⟩
theorem lay113_ok : LayOk1 Tryd.prog 113 lay113 := ⟨by kernel_rfl, by kernel_rfl⟩
def lay117 : Lay := ⟨.ptr 5, 1, 8, [.pointer none]⟩
theorem lay117_ok : LayOk1 Tryd.prog 117 lay117 := ⟨by kernel_rfl, by kernel_rfl⟩

def layL : List (Nat × Lay) := [(1, lay1), (2, lay2), (3, lay3), (4, lay4), (5, lay5), (9, lay9), (12, lay12), (21, lay21), (22, lay22), (23, lay23), (24, lay24), (25, lay25), (26, lay26), (28, lay28), (30, lay30), (31, lay31), (32, lay32), (33, lay33), (34, lay34), (36, lay36), (37, lay37), (38, lay38), (39, lay39), (40, lay40), (41, lay41), (42, lay42), (43, lay43), (44, lay44), (45, lay45), (46, lay46), (47, lay47), (48, lay48), (49, lay49), (50, lay50), (52, lay52), (54, lay54), (56, lay56), (57, lay57), (58, lay58), (59, lay59), (60, lay60), (61, lay61), (62, lay62), (63, lay63), (64, lay64), (65, lay65), (66, lay66), (67, lay67), (68, lay68), (69, lay69), (70, lay70), (72, lay72), (73, lay73), (74, lay74), (75, lay75), (76, lay76), (77, lay77), (79, lay79), (80, lay80), (81, lay81), (82, lay82), (83, lay83), (84, lay84), (85, lay85), (87, lay87), (88, lay88), (89, lay89), (91, lay91), (92, lay92), (93, lay93), (95, lay95), (96, lay96), (98, lay98), (99, lay99), (100, lay100), (101, lay101), (104, lay104), (105, lay105), (106, lay106), (107, lay107), (113, lay113), (117, lay117)]
def lk : List (Nat × Lay) → Nat → Option Lay
  | [], _ => none
  | (k, v) :: l, t => bif Nat.beq t k then some v else lk l t
def lay : Lays := fun t => lk layL t
def AllL (p : Nat → Lay → Prop) : List (Nat × Lay) → Prop
  | [] => True
  | (k, v) :: l => p k v ∧ AllL p l
theorem lk_all {p : Nat → Lay → Prop} : ∀ (l : List (Nat × Lay)), AllL p l → ∀ t x, lk l t = some x → p t x
  | [], _, t, x, h => by simp [lk] at h
  | (k, v) :: l, ha, t, x, h => by
    simp only [lk] at h
    cases hb : Nat.beq t k with
    | true => rw [hb] at h; simp at h; subst h; rw [Nat.eq_of_beq_eq_true hb]; exact ha.1
    | false => rw [hb] at h; exact lk_all l ha.2 t x h
theorem layL_ok : AllL (LayOk1 Tryd.prog) layL := ⟨lay1_ok, lay2_ok, lay3_ok, lay4_ok, lay5_ok, lay9_ok, lay12_ok, lay21_ok, lay22_ok, lay23_ok, lay24_ok, lay25_ok, lay26_ok, lay28_ok, lay30_ok, lay31_ok, lay32_ok, lay33_ok, lay34_ok, lay36_ok, lay37_ok, lay38_ok, lay39_ok, lay40_ok, lay41_ok, lay42_ok, lay43_ok, lay44_ok, lay45_ok, lay46_ok, lay47_ok, lay48_ok, lay49_ok, lay50_ok, lay52_ok, lay54_ok, lay56_ok, lay57_ok, lay58_ok, lay59_ok, lay60_ok, lay61_ok, lay62_ok, lay63_ok, lay64_ok, lay65_ok, lay66_ok, lay67_ok, lay68_ok, lay69_ok, lay70_ok, lay72_ok, lay73_ok, lay74_ok, lay75_ok, lay76_ok, lay77_ok, lay79_ok, lay80_ok, lay81_ok, lay82_ok, lay83_ok, lay84_ok, lay85_ok, lay87_ok, lay88_ok, lay89_ok, lay91_ok, lay92_ok, lay93_ok, lay95_ok, lay96_ok, lay98_ok, lay99_ok, lay100_ok, lay101_ok, lay104_ok, lay105_ok, lay106_ok, lay107_ok, lay113_ok, lay117_ok, trivial⟩
theorem lay9_eq : EqOk Tryd.prog 9 := ⟨by kernel_rfl, by kernel_rfl, names_ok (by kernel_rfl)⟩
theorem lay23_eq : EqOk Tryd.prog 23 := ⟨by kernel_rfl, by kernel_rfl, names_ok (by kernel_rfl)⟩
theorem lay24_eq : EqOk Tryd.prog 24 := ⟨by kernel_rfl, by kernel_rfl, names_ok (by kernel_rfl)⟩
theorem lay39_eq : EqOk Tryd.prog 39 := ⟨by kernel_rfl, by kernel_rfl, names_ok (by kernel_rfl)⟩
theorem lay40_eq : EqOk Tryd.prog 40 := ⟨by kernel_rfl, by kernel_rfl, names_ok (by kernel_rfl)⟩
theorem lay47_eq : EqOk Tryd.prog 47 := ⟨by kernel_rfl, by kernel_rfl, names_ok (by kernel_rfl)⟩
theorem lay48_eq : EqOk Tryd.prog 48 := ⟨by kernel_rfl, by kernel_rfl, names_ok (by kernel_rfl)⟩
theorem lay104_eq : EqOk Tryd.prog 104 := ⟨by kernel_rfl, by kernel_rfl, names_ok (by kernel_rfl)⟩
theorem lay105_eq : EqOk Tryd.prog 105 := ⟨by kernel_rfl, by kernel_rfl, names_ok (by kernel_rfl)⟩
theorem layL_eq : AllL (fun t L => isSt L.kind = true → EqOk Tryd.prog t) layL := ⟨fun h => Bool.noConfusion h, fun h => Bool.noConfusion h, fun h => Bool.noConfusion h, fun h => Bool.noConfusion h, fun h => Bool.noConfusion h, fun _ => lay9_eq, fun h => Bool.noConfusion h, fun h => Bool.noConfusion h, fun h => Bool.noConfusion h, fun _ => lay23_eq, fun _ => lay24_eq, fun h => Bool.noConfusion h, fun h => Bool.noConfusion h, fun h => Bool.noConfusion h, fun h => Bool.noConfusion h, fun h => Bool.noConfusion h, fun h => Bool.noConfusion h, fun h => Bool.noConfusion h, fun h => Bool.noConfusion h, fun h => Bool.noConfusion h, fun h => Bool.noConfusion h, fun h => Bool.noConfusion h, fun _ => lay39_eq, fun _ => lay40_eq, fun h => Bool.noConfusion h, fun h => Bool.noConfusion h, fun h => Bool.noConfusion h, fun h => Bool.noConfusion h, fun h => Bool.noConfusion h, fun h => Bool.noConfusion h, fun _ => lay47_eq, fun _ => lay48_eq, fun h => Bool.noConfusion h, fun h => Bool.noConfusion h, fun h => Bool.noConfusion h, fun h => Bool.noConfusion h, fun h => Bool.noConfusion h, fun h => Bool.noConfusion h, fun h => Bool.noConfusion h, fun h => Bool.noConfusion h, fun h => Bool.noConfusion h, fun h => Bool.noConfusion h, fun h => Bool.noConfusion h, fun h => Bool.noConfusion h, fun h => Bool.noConfusion h, fun h => Bool.noConfusion h, fun h => Bool.noConfusion h, fun h => Bool.noConfusion h, fun h => Bool.noConfusion h, fun h => Bool.noConfusion h, fun h => Bool.noConfusion h, fun h => Bool.noConfusion h, fun h => Bool.noConfusion h, fun h => Bool.noConfusion h, fun h => Bool.noConfusion h, fun h => Bool.noConfusion h, fun h => Bool.noConfusion h, fun h => Bool.noConfusion h, fun h => Bool.noConfusion h, fun h => Bool.noConfusion h, fun h => Bool.noConfusion h, fun h => Bool.noConfusion h, fun h => Bool.noConfusion h, fun h => Bool.noConfusion h, fun h => Bool.noConfusion h, fun h => Bool.noConfusion h, fun h => Bool.noConfusion h, fun h => Bool.noConfusion h, fun h => Bool.noConfusion h, fun h => Bool.noConfusion h, fun h => Bool.noConfusion h, fun h => Bool.noConfusion h, fun h => Bool.noConfusion h, fun h => Bool.noConfusion h, fun h => Bool.noConfusion h, fun h => Bool.noConfusion h, fun _ => lay104_eq, fun _ => lay105_eq, fun h => Bool.noConfusion h, fun h => Bool.noConfusion h, fun h => Bool.noConfusion h, fun h => Bool.noConfusion h, trivial⟩
theorem lay82_eqa : Tryd.prog.eqGuardType Tryd.prog.depth 82 = false := by kernel_rfl
theorem lay93_eqa : Tryd.prog.eqGuardType Tryd.prog.depth 93 = false := by kernel_rfl
theorem lay101_eqa : Tryd.prog.eqGuardType Tryd.prog.depth 101 = false := by kernel_rfl
theorem lay106_eqa : Tryd.prog.eqGuardType Tryd.prog.depth 106 = false := by kernel_rfl
def isArr : TK → Bool
  | .arr _ _ => true
  | _ => false
theorem layL_eqa : AllL (fun t L => isArr L.kind = true → Tryd.prog.eqGuardType Tryd.prog.depth t = false) layL := ⟨fun h => Bool.noConfusion h, fun h => Bool.noConfusion h, fun h => Bool.noConfusion h, fun h => Bool.noConfusion h, fun h => Bool.noConfusion h, fun h => Bool.noConfusion h, fun h => Bool.noConfusion h, fun h => Bool.noConfusion h, fun h => Bool.noConfusion h, fun h => Bool.noConfusion h, fun h => Bool.noConfusion h, fun h => Bool.noConfusion h, fun h => Bool.noConfusion h, fun h => Bool.noConfusion h, fun h => Bool.noConfusion h, fun h => Bool.noConfusion h, fun h => Bool.noConfusion h, fun h => Bool.noConfusion h, fun h => Bool.noConfusion h, fun h => Bool.noConfusion h, fun h => Bool.noConfusion h, fun h => Bool.noConfusion h, fun h => Bool.noConfusion h, fun h => Bool.noConfusion h, fun h => Bool.noConfusion h, fun h => Bool.noConfusion h, fun h => Bool.noConfusion h, fun h => Bool.noConfusion h, fun h => Bool.noConfusion h, fun h => Bool.noConfusion h, fun h => Bool.noConfusion h, fun h => Bool.noConfusion h, fun h => Bool.noConfusion h, fun h => Bool.noConfusion h, fun h => Bool.noConfusion h, fun h => Bool.noConfusion h, fun h => Bool.noConfusion h, fun h => Bool.noConfusion h, fun h => Bool.noConfusion h, fun h => Bool.noConfusion h, fun h => Bool.noConfusion h, fun h => Bool.noConfusion h, fun h => Bool.noConfusion h, fun h => Bool.noConfusion h, fun h => Bool.noConfusion h, fun h => Bool.noConfusion h, fun h => Bool.noConfusion h, fun h => Bool.noConfusion h, fun h => Bool.noConfusion h, fun h => Bool.noConfusion h, fun h => Bool.noConfusion h, fun h => Bool.noConfusion h, fun h => Bool.noConfusion h, fun h => Bool.noConfusion h, fun h => Bool.noConfusion h, fun h => Bool.noConfusion h, fun h => Bool.noConfusion h, fun h => Bool.noConfusion h, fun h => Bool.noConfusion h, fun h => Bool.noConfusion h, fun _ => lay82_eqa, fun h => Bool.noConfusion h, fun h => Bool.noConfusion h, fun h => Bool.noConfusion h, fun h => Bool.noConfusion h, fun h => Bool.noConfusion h, fun h => Bool.noConfusion h, fun h => Bool.noConfusion h, fun h => Bool.noConfusion h, fun _ => lay93_eqa, fun h => Bool.noConfusion h, fun h => Bool.noConfusion h, fun h => Bool.noConfusion h, fun h => Bool.noConfusion h, fun h => Bool.noConfusion h, fun _ => lay101_eqa, fun h => Bool.noConfusion h, fun h => Bool.noConfusion h, fun _ => lay106_eqa, fun h => Bool.noConfusion h, fun h => Bool.noConfusion h, fun h => Bool.noConfusion h, trivial⟩
theorem layL_zform : (layL.all fun p => (((Tryd.prog.info? p.1).bind fun i => i.zero.map aggOf) == some (isAgg p.2.kind))) = true := by kernel_rfl
theorem layL_zero : (layL.all fun p => p.2.zero.all (·.oneCell')) = true := by kernel_rfl
theorem layL_size : (layL.all fun p => Nat.beq p.2.zero.length p.2.size) = true := by kernel_rfl
def fieldsOk : Lay → Bool
  | ⟨.st fs, _, _, _⟩ => fieldsIn lay fs
  | _ => true
theorem layL_fields : (layL.all fun p => fieldsOk p.2) = true := by kernel_rfl
theorem lk_mem : ∀ (l : List (Nat × Lay)) (t : Nat) (x : Lay), lk l t = some x → (t, x) ∈ l
  | [], t, x, h => by simp [lk] at h
  | (k, v) :: l, t, x, h => by
    simp only [lk] at h
    cases hb : Nat.beq t k with
    | true => rw [hb] at h; simp at h; subst h; rw [Nat.eq_of_beq_eq_true hb]; exact List.mem_cons_self
    | false => rw [hb] at h; exact List.mem_cons_of_mem _ (lk_mem l t x h)
theorem good : Good Tryd.prog lay where
  lay := lk_all layL layL_ok
  zero t x h := by
    have := List.all_eq_true.1 layL_zero _ (lk_mem layL t x h)
    exact this
  size t x h := by
    have := List.all_eq_true.1 layL_size _ (lk_mem layL t x h)
    exact Nat.eq_of_beq_eq_true this
  fields t fs s b z h := by
    have := List.all_eq_true.1 layL_fields _ (lk_mem layL t _ h)
    exact this
  more :=
    { eqs := fun t fs s b z h => lk_all layL layL_eq t _ h rfl
      eqa := fun t n e s b z h => lk_all layL layL_eqa t _ h rfl
      size := fun t x h => Nat.eq_of_beq_eq_true (List.all_eq_true.1 layL_size _ (lk_mem layL t x h))
      zform := fun t x h => by
        have := List.all_eq_true.1 layL_zform _ (lk_mem layL t x h)
        exact eq_of_beq this }
#print axioms good
end Go.Proofs.YtmpddomgiplnmaaDoor.Abs

/-
  THE LAYOUTS OF THE TYPES OF THIS SEAT's PROGRAM, each held against the program by the kernel. Printed by this session's genlay.py.
-/
import Derived.Test.YtndfcbcmeeemfaaProg
import Derived.Test.YtndfcbcmeeemfaaX3
import Derived.KernelRfl
namespace Go.Proofs.Ytndfcbcmeeemfaa.Abs
open Go

def lay1 : Lay := ⟨.fn, 1, 8, [.nilFunc]⟩
theorem lay1_ok : LayOk1 Try.prog 1 lay1 := ⟨by kernel_rfl, by kernel_rfl⟩
def lay2 : Lay := ⟨.int .i64, 1, 8, [.int .i64 0]⟩
theorem lay2_ok : LayOk1 Try.prog 2 lay2 := ⟨by kernel_rfl, by kernel_rfl⟩
def lay3 : Lay := ⟨.int .i64, 1, 8, [.int .i64 0]⟩
theorem lay3_ok : LayOk1 Try.prog 3 lay3 := ⟨by kernel_rfl, by kernel_rfl⟩
def lay4 : Lay := ⟨.bool, 1, 1, [.bool false]⟩
theorem lay4_ok : LayOk1 Try.prog 4 lay4 := ⟨by kernel_rfl, by kernel_rfl⟩
def lay5 : Lay := ⟨.int .u8, 1, 1, [.int .u8 0]⟩
theorem lay5_ok : LayOk1 Try.prog 5 lay5 := ⟨by kernel_rfl, by kernel_rfl⟩
def lay9 : Lay := ⟨.str, 1, 16, [.string .empty]⟩
theorem lay9_ok : LayOk1 Try.prog 9 lay9 := ⟨by kernel_rfl, by kernel_rfl⟩
def lay12 : Lay := ⟨.int .u64, 1, 8, [.int .u64 0]⟩
theorem lay12_ok : LayOk1 Try.prog 12 lay12 := ⟨by kernel_rfl, by kernel_rfl⟩
def lay21 : Lay := ⟨.int .i32, 1, 4, [.int .i32 0]⟩
theorem lay21_ok : LayOk1 Try.prog 21 lay21 := ⟨by kernel_rfl, by kernel_rfl⟩
def lay22 : Lay := ⟨.int .u64, 1, 8, [.int .u64 0]⟩
theorem lay22_ok : LayOk1 Try.prog 22 lay22 := ⟨by kernel_rfl, by kernel_rfl⟩
def lay23 : Lay := ⟨.sl 22, 1, 24, [.slice none 0 0]⟩
theorem lay23_ok : LayOk1 Try.prog 23 lay23 := ⟨by kernel_rfl, by kernel_rfl⟩
def lay24 : Lay := ⟨.int .i64, 1, 8, [.int .i64 0]⟩
theorem lay24_ok : LayOk1 Try.prog 24 lay24 := ⟨by kernel_rfl, by kernel_rfl⟩
def lay26 : Lay := ⟨.fn, 1, 8, [.nilFunc]⟩
theorem lay26_ok : LayOk1 Try.prog 26 lay26 := ⟨by kernel_rfl, by kernel_rfl⟩
def lay28 : Lay := ⟨.fn, 1, 8, [.nilFunc]⟩
theorem lay28_ok : LayOk1 Try.prog 28 lay28 := ⟨by kernel_rfl, by kernel_rfl⟩
def lay29 : Lay := ⟨.fn, 1, 8, [.nilFunc]⟩
theorem lay29_ok : LayOk1 Try.prog 29 lay29 := ⟨by kernel_rfl, by kernel_rfl⟩
def lay30 : Lay := ⟨.fn, 1, 8, [.nilFunc]⟩
theorem lay30_ok : LayOk1 Try.prog 30 lay30 := ⟨by kernel_rfl, by kernel_rfl⟩
def lay31 : Lay := ⟨.fn, 1, 8, [.nilFunc]⟩
theorem lay31_ok : LayOk1 Try.prog 31 lay31 := ⟨by kernel_rfl, by kernel_rfl⟩
def lay33 : Lay := ⟨.fn, 1, 8, [.nilFunc]⟩
theorem lay33_ok : LayOk1 Try.prog 33 lay33 := ⟨by kernel_rfl, by kernel_rfl⟩
def lay34 : Lay := ⟨.fn, 1, 8, [.nilFunc]⟩
theorem lay34_ok : LayOk1 Try.prog 34 lay34 := ⟨by kernel_rfl, by kernel_rfl⟩
def lay35 : Lay := ⟨.fn, 1, 8, [.nilFunc]⟩
theorem lay35_ok : LayOk1 Try.prog 35 lay35 := ⟨by kernel_rfl, by kernel_rfl⟩
def lay36 : Lay := ⟨.sl 39, 1, 24, [.slice none 0 0]⟩
theorem lay36_ok : LayOk1 Try.prog 36 lay36 := ⟨by kernel_rfl, by kernel_rfl⟩
def lay37 : Lay := ⟨.map 3 22, 1, 8, [.map none]⟩
theorem lay37_ok : LayOk1 Try.prog 37 lay37 := ⟨by kernel_rfl, by kernel_rfl⟩
def lay38 : Lay := ⟨.st [(0, 3), (1, 3), (2, 22), (3, 22)], 4, 32, [.int .i64 0, .int .i64 0, .int .u64 0, .int .u64 0]⟩
theorem lay38_ok : LayOk1 Try.prog 38 lay38 := ⟨by kernel_rfl, by kernel_rfl⟩
def lay39 : Lay := ⟨.st [(0, 3), (1, 3), (2, 22), (3, 22)], 4, 32, [.int .i64 0, .int .i64 0, .int .u64 0, .int .u64 0]⟩
theorem lay39_ok : LayOk1 Try.prog 39 lay39 := ⟨by kernel_rfl, by kernel_rfl⟩
def lay41 : Lay := ⟨.fn, 1, 8, [.nilFunc]⟩
theorem lay41_ok : LayOk1 Try.prog 41 lay41 := ⟨by kernel_rfl, by kernel_rfl⟩
def lay42 : Lay := ⟨.fn, 1, 8, [.nilFunc]⟩
theorem lay42_ok : LayOk1 Try.prog 42 lay42 := ⟨by kernel_rfl, by kernel_rfl⟩
def lay43 : Lay := ⟨.fn, 1, 8, [.nilFunc]⟩
theorem lay43_ok : LayOk1 Try.prog 43 lay43 := ⟨by kernel_rfl, by kernel_rfl⟩
def lay44 : Lay := ⟨.st [(0, 23), (1, 22), (2, 24)], 3, 40, [.slice none 0 0, .int .u64 0, .int .i64 0]⟩
theorem lay44_ok : LayOk1 Try.prog 44 lay44 := ⟨by kernel_rfl, by kernel_rfl⟩
def lay45 : Lay := ⟨.st [(0, 23), (1, 22), (2, 24)], 3, 40, [.slice none 0 0, .int .u64 0, .int .i64 0]⟩
theorem lay45_ok : LayOk1 Try.prog 45 lay45 := ⟨by kernel_rfl, by kernel_rfl⟩
def lay46 : Lay := ⟨.fn, 1, 8, [.nilFunc]⟩
theorem lay46_ok : LayOk1 Try.prog 46 lay46 := ⟨by kernel_rfl, by kernel_rfl⟩
def lay47 : Lay := ⟨.fn, 1, 8, [.nilFunc]⟩
theorem lay47_ok : LayOk1 Try.prog 47 lay47 := ⟨by kernel_rfl, by kernel_rfl⟩
def lay48 : Lay := ⟨.fn, 1, 8, [.nilFunc]⟩
theorem lay48_ok : LayOk1 Try.prog 48 lay48 := ⟨by kernel_rfl, by kernel_rfl⟩
def lay49 : Lay := ⟨.sl 54, 1, 24, [.slice none 0 0]⟩
theorem lay49_ok : LayOk1 Try.prog 49 lay49 := ⟨by kernel_rfl, by kernel_rfl⟩
def lay50 : Lay := ⟨.sl 3, 1, 24, [.slice none 0 0]⟩
theorem lay50_ok : LayOk1 Try.prog 50 lay50 := ⟨by kernel_rfl, by kernel_rfl⟩
def lay51 : Lay := ⟨.sl 67, 1, 24, [.slice none 0 0]⟩
theorem lay51_ok : LayOk1 Try.prog 51 lay51 := ⟨by kernel_rfl, by kernel_rfl⟩
def lay52 : Lay := ⟨.arr 4 22, 4, 32, [.int .u64 0, .int .u64 0, .int .u64 0, .int .u64 0]⟩
theorem lay52_ok : LayOk1 Try.prog 52 lay52 := ⟨by kernel_rfl, by kernel_rfl⟩
def lay53 : Lay := ⟨.st [(0, 51), (1, 3), (2, 52), (6, 4), (7, 3)], 8, 80, [.slice none 0 0, .int .i64 0, .int .u64 0, .int .u64 0, .int .u64 0, .int .u64 0, .bool false, .int .i64 0]⟩
theorem lay53_ok : LayOk1 Try.prog 53 lay53 := ⟨by kernel_rfl, by kernel_rfl⟩
def lay54 : Lay := ⟨.st [(0, 51), (1, 3), (2, 52), (6, 4), (7, 3)], 8, 80, [.slice none 0 0, .int .i64 0, .int .u64 0, .int .u64 0, .int .u64 0, .int .u64 0, .bool false, .int .i64 0]⟩
theorem lay54_ok : LayOk1 Try.prog 54 lay54 := ⟨by kernel_rfl, by kernel_rfl⟩
def lay55 : Lay := ⟨.fn, 1, 8, [.nilFunc]⟩
theorem lay55_ok : LayOk1 Try.prog 55 lay55 := ⟨by kernel_rfl, by kernel_rfl⟩
def lay57 : Lay := ⟨.fn, 1, 8, [.nilFunc]⟩
theorem lay57_ok : LayOk1 Try.prog 57 lay57 := ⟨by kernel_rfl, by kernel_rfl⟩
def lay58 : Lay := ⟨.fn, 1, 8, [.nilFunc]⟩
theorem lay58_ok : LayOk1 Try.prog 58 lay58 := ⟨by kernel_rfl, by kernel_rfl⟩
def lay59 : Lay := ⟨.st [(0, 23), (1, 54)], 9, 104, [.slice none 0 0, .slice none 0 0, .int .i64 0, .int .u64 0, .int .u64 0, .int .u64 0, .int .u64 0, .bool false, .int .i64 0]⟩
theorem lay59_ok : LayOk1 Try.prog 59 lay59 := ⟨by kernel_rfl, by kernel_rfl⟩
def lay60 : Lay := ⟨.st [(0, 23), (1, 54)], 9, 104, [.slice none 0 0, .slice none 0 0, .int .i64 0, .int .u64 0, .int .u64 0, .int .u64 0, .int .u64 0, .bool false, .int .i64 0]⟩
theorem lay60_ok : LayOk1 Try.prog 60 lay60 := ⟨by kernel_rfl, by kernel_rfl⟩
def lay61 : Lay := ⟨.fn, 1, 8, [.nilFunc]⟩
theorem lay61_ok : LayOk1 Try.prog 61 lay61 := ⟨by kernel_rfl, by kernel_rfl⟩
def lay62 : Lay := ⟨.fn, 1, 8, [.nilFunc]⟩
theorem lay62_ok : LayOk1 Try.prog 62 lay62 := ⟨by kernel_rfl, by kernel_rfl⟩
def lay63 : Lay := ⟨.fn, 1, 8, [.nilFunc]⟩
theorem lay63_ok : LayOk1 Try.prog 63 lay63 := ⟨by kernel_rfl, by kernel_rfl⟩
def lay64 : Lay := ⟨.fn, 1, 8, [.nilFunc]⟩
theorem lay64_ok : LayOk1 Try.prog 64 lay64 := ⟨by kernel_rfl, by kernel_rfl⟩
def lay65 : Lay := ⟨.fn, 1, 8, [.nilFunc]⟩
theorem lay65_ok : LayOk1 Try.prog 65 lay65 := ⟨by kernel_rfl, by kernel_rfl⟩
def lay66 : Lay := ⟨.st [(0, 3), (1, 3), (2, 3), (3, 22), (4, 3)], 5, 40, [.int .i64 0, .int .i64 0, .int .i64 0, .int .u64 0, .int .i64 0]⟩
theorem lay66_ok : LayOk1 Try.prog 66 lay66 := ⟨by kernel_rfl, by kernel_rfl⟩
def lay67 : Lay := ⟨.st [(0, 3), (1, 3), (2, 3), (3, 22), (4, 3)], 5, 40, [.int .i64 0, .int .i64 0, .int .i64 0, .int .u64 0, .int .i64 0]⟩
theorem lay67_ok : LayOk1 Try.prog 67 lay67 := ⟨by kernel_rfl, by kernel_rfl⟩
def lay68 : Lay := ⟨.fn, 1, 8, [.nilFunc]⟩
theorem lay68_ok : LayOk1 Try.prog 68 lay68 := ⟨by kernel_rfl, by kernel_rfl⟩
def lay69 : Lay := ⟨.fn, 1, 8, [.nilFunc]⟩
theorem lay69_ok : LayOk1 Try.prog 69 lay69 := ⟨by kernel_rfl, by kernel_rfl⟩
def lay70 : Lay := ⟨.fn, 1, 8, [.nilFunc]⟩
theorem lay70_ok : LayOk1 Try.prog 70 lay70 := ⟨by kernel_rfl, by kernel_rfl⟩
def lay71 : Lay := ⟨.fn, 1, 8, [.nilFunc]⟩
theorem lay71_ok : LayOk1 Try.prog 71 lay71 := ⟨by kernel_rfl, by kernel_rfl⟩
def lay73 : Lay := ⟨.fn, 1, 8, [.nilFunc]⟩
theorem lay73_ok : LayOk1 Try.prog 73 lay73 := ⟨by kernel_rfl, by kernel_rfl⟩
def lay74 : Lay := ⟨.fn, 1, 8, [.nilFunc]⟩
theorem lay74_ok : LayOk1 Try.prog 74 lay74 := ⟨by kernel_rfl, by kernel_rfl⟩
def lay75 : Lay := ⟨.fn, 1, 8, [.nilFunc]⟩
theorem lay75_ok : LayOk1 Try.prog 75 lay75 := ⟨by kernel_rfl, by kernel_rfl⟩
def lay76 : Lay := ⟨.fn, 1, 8, [.nilFunc]⟩
theorem lay76_ok : LayOk1 Try.prog 76 lay76 := ⟨by kernel_rfl, by kernel_rfl⟩
def lay77 : Lay := ⟨.fn, 1, 8, [.nilFunc]⟩
theorem lay77_ok : LayOk1 Try.prog 77 lay77 := ⟨by kernel_rfl, by kernel_rfl⟩
def lay78 : Lay := ⟨.fn, 1, 8, [.nilFunc]⟩
theorem lay78_ok : LayOk1 Try.prog 78 lay78 := ⟨by kernel_rfl, by kernel_rfl⟩
def lay80 : Lay := ⟨.fn, 1, 8, [.nilFunc]⟩
theorem lay80_ok : LayOk1 Try.prog 80 lay80 := ⟨by kernel_rfl, by kernel_rfl⟩
def lay81 : Lay := ⟨.fn, 1, 8, [.nilFunc]⟩
theorem lay81_ok : LayOk1 Try.prog 81 lay81 := ⟨by kernel_rfl, by kernel_rfl⟩
def lay83 : Lay := ⟨.fn, 1, 8, [.nilFunc]⟩
theorem lay83_ok : LayOk1 Try.prog 83 lay83 := ⟨by kernel_rfl, by kernel_rfl⟩
def lay84 : Lay := ⟨.fn, 1, 8, [.nilFunc]⟩
theorem lay84_ok : LayOk1 Try.prog 84 lay84 := ⟨by kernel_rfl, by kernel_rfl⟩
def lay85 : Lay := ⟨.fn, 1, 8, [.nilFunc]⟩
theorem lay85_ok : LayOk1 Try.prog 85 lay85 := ⟨by kernel_rfl, by kernel_rfl⟩
def lay86 : Lay := ⟨.fn, 1, 8, [.nilFunc]⟩
theorem lay86_ok : LayOk1 Try.prog 86 lay86 := ⟨by kernel_rfl, by kernel_rfl⟩
def lay87 : Lay := ⟨.fn, 1, 8, [.nilFunc]⟩
theorem lay87_ok : LayOk1 Try.prog 87 lay87 := ⟨by kernel_rfl, by kernel_rfl⟩
def lay88 : Lay := ⟨.fn, 1, 8, [.nilFunc]⟩
theorem lay88_ok : LayOk1 Try.prog 88 lay88 := ⟨by kernel_rfl, by kernel_rfl⟩
def lay94 : Lay := ⟨.fn, 1, 8, [.nilFunc]⟩
theorem lay94_ok : LayOk1 Try.prog 94 lay94 := ⟨by kernel_rfl, by kernel_rfl⟩
def lay95 : Lay := ⟨.int .u32, 1, 4, [.int .u32 0]⟩
theorem lay95_ok : LayOk1 Try.prog 95 lay95 := ⟨by kernel_rfl, by kernel_rfl⟩
def lay99 : Lay := ⟨.ptr 5, 1, 8, [.pointer none]⟩
theorem lay99_ok : LayOk1 Try.prog 99 lay99 := ⟨by kernel_rfl, by kernel_rfl⟩

def layL : List (Nat × Lay) := [(1, lay1), (2, lay2), (3, lay3), (4, lay4), (5, lay5), (9, lay9), (12, lay12), (21, lay21), (22, lay22), (23, lay23), (24, lay24), (26, lay26), (28, lay28), (29, lay29), (30, lay30), (31, lay31), (33, lay33), (34, lay34), (35, lay35), (36, lay36), (37, lay37), (38, lay38), (39, lay39), (41, lay41), (42, lay42), (43, lay43), (44, lay44), (45, lay45), (46, lay46), (47, lay47), (48, lay48), (49, lay49), (50, lay50), (51, lay51), (52, lay52), (53, lay53), (54, lay54), (55, lay55), (57, lay57), (58, lay58), (59, lay59), (60, lay60), (61, lay61), (62, lay62), (63, lay63), (64, lay64), (65, lay65), (66, lay66), (67, lay67), (68, lay68), (69, lay69), (70, lay70), (71, lay71), (73, lay73), (74, lay74), (75, lay75), (76, lay76), (77, lay77), (78, lay78), (80, lay80), (81, lay81), (83, lay83), (84, lay84), (85, lay85), (86, lay86), (87, lay87), (88, lay88), (94, lay94), (95, lay95), (99, lay99)]
def lk : List (Nat × Lay) → Nat → Option Lay
  | [], _ => none
  | (k, v) :: l, t => bif Nat.beq t k then some v else lk l t
def lay : Lays := fun t => lk layL t
def AllL (p : Nat → Lay → Prop) : List (Nat × Lay) → Prop
  | [] => True
  | (k, v) :: l => p k v ∧ AllL p l
theorem lk_all {p : Nat → Lay → Prop} : ∀ (l : List (Nat × Lay)), AllL p l → ∀ t x, lk l t = some x → p t x
  | [], _, t, x, h => by simp [lk] at h
  | (k, v) :: l, ha, t, x, h => by
    simp only [lk] at h
    cases hb : Nat.beq t k with
    | true => rw [hb] at h; simp at h; subst h; rw [Nat.eq_of_beq_eq_true hb]; exact ha.1
    | false => rw [hb] at h; exact lk_all l ha.2 t x h
theorem layL_ok : AllL (LayOk1 Try.prog) layL := ⟨lay1_ok, lay2_ok, lay3_ok, lay4_ok, lay5_ok, lay9_ok, lay12_ok, lay21_ok, lay22_ok, lay23_ok, lay24_ok, lay26_ok, lay28_ok, lay29_ok, lay30_ok, lay31_ok, lay33_ok, lay34_ok, lay35_ok, lay36_ok, lay37_ok, lay38_ok, lay39_ok, lay41_ok, lay42_ok, lay43_ok, lay44_ok, lay45_ok, lay46_ok, lay47_ok, lay48_ok, lay49_ok, lay50_ok, lay51_ok, lay52_ok, lay53_ok, lay54_ok, lay55_ok, lay57_ok, lay58_ok, lay59_ok, lay60_ok, lay61_ok, lay62_ok, lay63_ok, lay64_ok, lay65_ok, lay66_ok, lay67_ok, lay68_ok, lay69_ok, lay70_ok, lay71_ok, lay73_ok, lay74_ok, lay75_ok, lay76_ok, lay77_ok, lay78_ok, lay80_ok, lay81_ok, lay83_ok, lay84_ok, lay85_ok, lay86_ok, lay87_ok, lay88_ok, lay94_ok, lay95_ok, lay99_ok, trivial⟩
theorem lay9_eq : EqOk Try.prog 9 := ⟨by kernel_rfl, by kernel_rfl, names_ok (by kernel_rfl)⟩
theorem lay38_eq : EqOk Try.prog 38 := ⟨by kernel_rfl, by kernel_rfl, names_ok (by kernel_rfl)⟩
theorem lay39_eq : EqOk Try.prog 39 := ⟨by kernel_rfl, by kernel_rfl, names_ok (by kernel_rfl)⟩
theorem lay44_eq : EqOk Try.prog 44 := ⟨by kernel_rfl, by kernel_rfl, names_ok (by kernel_rfl)⟩
theorem lay45_eq : EqOk Try.prog 45 := ⟨by kernel_rfl, by kernel_rfl, names_ok (by kernel_rfl)⟩
theorem lay53_eq : EqOk Try.prog 53 := ⟨by kernel_rfl, by kernel_rfl, names_ok (by kernel_rfl)⟩
theorem lay54_eq : EqOk Try.prog 54 := ⟨by kernel_rfl, by kernel_rfl, names_ok (by kernel_rfl)⟩
theorem lay59_eq : EqOk Try.prog 59 := ⟨by kernel_rfl, by kernel_rfl, names_ok (by kernel_rfl)⟩
theorem lay60_eq : EqOk Try.prog 60 := ⟨by kernel_rfl, by kernel_rfl, names_ok (by kernel_rfl)⟩
theorem lay66_eq : EqOk Try.prog 66 := ⟨by kernel_rfl, by kernel_rfl, names_ok (by kernel_rfl)⟩
theorem lay67_eq : EqOk Try.prog 67 := ⟨by kernel_rfl, by kernel_rfl, names_ok (by kernel_rfl)⟩
theorem layL_eq : AllL (fun t L => isSt L.kind = true → EqOk Try.prog t) layL := ⟨fun h => Bool.noConfusion h, fun h => Bool.noConfusion h, fun h => Bool.noConfusion h, fun h => Bool.noConfusion h, fun h => Bool.noConfusion h, fun _ => lay9_eq, fun h => Bool.noConfusion h, fun h => Bool.noConfusion h, fun h => Bool.noConfusion h, fun h => Bool.noConfusion h, fun h => Bool.noConfusion h, fun h => Bool.noConfusion h, fun h => Bool.noConfusion h, fun h => Bool.noConfusion h, fun h => Bool.noConfusion h, fun h => Bool.noConfusion h, fun h => Bool.noConfusion h, fun h => Bool.noConfusion h, fun h => Bool.noConfusion h, fun h => Bool.noConfusion h, fun h => Bool.noConfusion h, fun _ => lay38_eq, fun _ => lay39_eq, fun h => Bool.noConfusion h, fun h => Bool.noConfusion h, fun h => Bool.noConfusion h, fun _ => lay44_eq, fun _ => lay45_eq, fun h => Bool.noConfusion h, fun h => Bool.noConfusion h, fun h => Bool.noConfusion h, fun h => Bool.noConfusion h, fun h => Bool.noConfusion h, fun h => Bool.noConfusion h, fun h => Bool.noConfusion h, fun _ => lay53_eq, fun _ => lay54_eq, fun h => Bool.noConfusion h, fun h => Bool.noConfusion h, fun h => Bool.noConfusion h, fun _ => lay59_eq, fun _ => lay60_eq, fun h => Bool.noConfusion h, fun h => Bool.noConfusion h, fun h => Bool.noConfusion h, fun h => Bool.noConfusion h, fun h => Bool.noConfusion h, fun _ => lay66_eq, fun _ => lay67_eq, fun h => Bool.noConfusion h, fun h => Bool.noConfusion h, fun h => Bool.noConfusion h, fun h => Bool.noConfusion h, fun h => Bool.noConfusion h, fun h => Bool.noConfusion h, fun h => Bool.noConfusion h, fun h => Bool.noConfusion h, fun h => Bool.noConfusion h, fun h => Bool.noConfusion h, fun h => Bool.noConfusion h, fun h => Bool.noConfusion h, fun h => Bool.noConfusion h, fun h => Bool.noConfusion h, fun h => Bool.noConfusion h, fun h => Bool.noConfusion h, fun h => Bool.noConfusion h, fun h => Bool.noConfusion h, fun h => Bool.noConfusion h, fun h => Bool.noConfusion h, fun h => Bool.noConfusion h, trivial⟩
theorem lay52_eqa : Try.prog.eqGuardType Try.prog.depth 52 = false := by kernel_rfl
def isArr : TK → Bool
  | .arr _ _ => true
  | _ => false
theorem layL_eqa : AllL (fun t L => isArr L.kind = true → Try.prog.eqGuardType Try.prog.depth t = false) layL := ⟨fun h => Bool.noConfusion h, fun h => Bool.noConfusion h, fun h => Bool.noConfusion h, fun h => Bool.noConfusion h, fun h => Bool.noConfusion h, fun h => Bool.noConfusion h, fun h => Bool.noConfusion h, fun h => Bool.noConfusion h, fun h => Bool.noConfusion h, fun h => Bool.noConfusion h, fun h => Bool.noConfusion h, fun h => Bool.noConfusion h, fun h => Bool.noConfusion h, fun h => Bool.noConfusion h, fun h => Bool.noConfusion h, fun h => Bool.noConfusion h, fun h => Bool.noConfusion h, fun h => Bool.noConfusion h, fun h => Bool.noConfusion h, fun h => Bool.noConfusion h, fun h => Bool.noConfusion h, fun h => Bool.noConfusion h, fun h => Bool.noConfusion h, fun h => Bool.noConfusion h, fun h => Bool.noConfusion h, fun h => Bool.noConfusion h, fun h => Bool.noConfusion h, fun h => Bool.noConfusion h, fun h => Bool.noConfusion h, fun h => Bool.noConfusion h, fun h => Bool.noConfusion h, fun h => Bool.noConfusion h, fun h => Bool.noConfusion h, fun h => Bool.noConfusion h, fun _ => lay52_eqa, fun h => Bool.noConfusion h, fun h => Bool.noConfusion h, fun h => Bool.noConfusion h, fun h => Bool.noConfusion h, fun h => Bool.noConfusion h, fun h => Bool.noConfusion h, fun h => Bool.noConfusion h, fun h => Bool.noConfusion h, fun h => Bool.noConfusion h, fun h => Bool.noConfusion h, fun h => Bool.noConfusion h, fun h => Bool.noConfusion h, fun h => Bool.noConfusion h, fun h => Bool.noConfusion h, fun h => Bool.noConfusion h, fun h => Bool.noConfusion h, fun h => Bool.noConfusion h, fun h => Bool.noConfusion h, fun h => Bool.noConfusion h, fun h => Bool.noConfusion h, fun h => Bool.noConfusion h, fun h => Bool.noConfusion h, fun h => Bool.noConfusion h, fun h => Bool.noConfusion h, fun h => Bool.noConfusion h, fun h => Bool.noConfusion h, fun h => Bool.noConfusion h, fun h => Bool.noConfusion h, fun h => Bool.noConfusion h, fun h => Bool.noConfusion h, fun h => Bool.noConfusion h, fun h => Bool.noConfusion h, fun h => Bool.noConfusion h, fun h => Bool.noConfusion h, fun h => Bool.noConfusion h, trivial⟩
theorem layL_zform : (layL.all fun p => (((Try.prog.info? p.1).bind fun i => i.zero.map aggOf) == some (isAgg p.2.kind))) = true := by kernel_rfl
theorem layL_zero : (layL.all fun p => p.2.zero.all (·.oneCell')) = true := by kernel_rfl
theorem layL_size : (layL.all fun p => Nat.beq p.2.zero.length p.2.size) = true := by kernel_rfl
def fieldsOk : Lay → Bool
  | ⟨.st fs, _, _, _⟩ => fieldsIn lay fs
  | _ => true
theorem layL_fields : (layL.all fun p => fieldsOk p.2) = true := by kernel_rfl
theorem lk_mem : ∀ (l : List (Nat × Lay)) (t : Nat) (x : Lay), lk l t = some x → (t, x) ∈ l
  | [], t, x, h => by simp [lk] at h
  | (k, v) :: l, t, x, h => by
    simp only [lk] at h
    cases hb : Nat.beq t k with
    | true => rw [hb] at h; simp at h; subst h; rw [Nat.eq_of_beq_eq_true hb]; exact List.mem_cons_self
    | false => rw [hb] at h; exact List.mem_cons_of_mem _ (lk_mem l t x h)
theorem good : Good Try.prog lay where
  lay := lk_all layL layL_ok
  zero t x h := by
    have := List.all_eq_true.1 layL_zero _ (lk_mem layL t x h)
    exact this
  size t x h := by
    have := List.all_eq_true.1 layL_size _ (lk_mem layL t x h)
    exact Nat.eq_of_beq_eq_true this
  fields t fs s b z h := by
    have := List.all_eq_true.1 layL_fields _ (lk_mem layL t _ h)
    exact this
  more :=
    { eqs := fun t fs s b z h => lk_all layL layL_eq t _ h rfl
      eqa := fun t n e s b z h => lk_all layL layL_eqa t _ h rfl
      size := fun t x h => Nat.eq_of_beq_eq_true (List.all_eq_true.1 layL_size _ (lk_mem layL t x h))
      zform := fun t x h => by
        have := List.all_eq_true.1 layL_zform _ (lk_mem layL t x h)
        exact eq_of_beq this }
#print axioms good
end Go.Proofs.Ytndfcbcmeeemfaa.Abs

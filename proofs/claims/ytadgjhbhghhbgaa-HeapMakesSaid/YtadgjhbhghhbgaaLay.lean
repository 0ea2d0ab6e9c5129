/-
  THE LAYOUTS OF THE TYPES OF THIS SEAT's PROGRAM, each held against the program by the kernel. Printed by this session's genlay.py.
-/
import Derived.Test.YtadgjhbhghhbgaaProg
import Derived.Test.YtadgjhbhghhbgaaX3
import Derived.KernelRfl
namespace Go.Proofs.Ytadgjhbhghhbgaa.Abs
open Go

def lay1 : Lay := ⟨.fn, 1, 8, [.nilFunc]⟩
theorem lay1_ok : LayOk1 Try.prog 1 lay1 := ⟨by kernel_rfl, by kernel_rfl⟩
def lay2 : Lay := ⟨.int .i64, 1, 8, [.int .i64 0]⟩
theorem lay2_ok : LayOk1 Try.prog 2 lay2 := ⟨by kernel_rfl, by kernel_rfl⟩
def lay3 : Lay := ⟨.int .i64, 1, 8, [.int .i64 0]⟩
theorem lay3_ok : LayOk1 Try.prog 3 lay3 := ⟨by kernel_rfl, by kernel_rfl⟩
def lay4 : Lay := ⟨.bool, 1, 1, [.bool false]⟩
theorem lay4_ok : LayOk1 Try.prog 4 lay4 := ⟨by kernel_rfl, by kernel_rfl⟩
def lay5 : Lay := ⟨.int .u8, 1, 1, [.int .u8 0]⟩
theorem lay5_ok : LayOk1 Try.prog 5 lay5 := ⟨by kernel_rfl, by kernel_rfl⟩
def lay9 : Lay := ⟨.str, 1, 16, [.string .empty]⟩
theorem lay9_ok : LayOk1 Try.prog 9 lay9 := ⟨by kernel_rfl, by kernel_rfl⟩
def lay12 : Lay := ⟨.int .u64, 1, 8, [.int .u64 0]⟩
theorem lay12_ok : LayOk1 Try.prog 12 lay12 := ⟨by kernel_rfl, by kernel_rfl⟩
def lay21 : Lay := ⟨.int .i32, 1, 4, [.int .i32 0]⟩
theorem lay21_ok : LayOk1 Try.prog 21 lay21 := ⟨by kernel_rfl, by kernel_rfl⟩
def lay22 : Lay := ⟨.sl 3, 1, 24, [.slice none 0 0]⟩
theorem lay22_ok : LayOk1 Try.prog 22 lay22 := ⟨by kernel_rfl, by kernel_rfl⟩
def lay23 : Lay := ⟨.sl 42, 1, 24, [.slice none 0 0]⟩
theorem lay23_ok : LayOk1 Try.prog 23 lay23 := ⟨by kernel_rfl, by kernel_rfl⟩
def lay24 : Lay := ⟨.st [(0, 23), (1, 22), (2, 22)], 3, 72, [.slice none 0 0, .slice none 0 0, .slice none 0 0]⟩
theorem lay24_ok : LayOk1 Try.prog 24 lay24 := ⟨by kernel_rfl, by kernel_rfl⟩
def lay25 : Lay := ⟨.st [(0, 23), (1, 22), (2, 22)], 3, 72, [.slice none 0 0, .slice none 0 0, .slice none 0 0]⟩
theorem lay25_ok : LayOk1 Try.prog 25 lay25 := ⟨by kernel_rfl, by kernel_rfl⟩
def lay26 : Lay := ⟨.int .i64, 1, 8, [.int .i64 0]⟩
theorem lay26_ok : LayOk1 Try.prog 26 lay26 := ⟨by kernel_rfl, by kernel_rfl⟩
def lay28 : Lay := ⟨.fn, 1, 8, [.nilFunc]⟩
theorem lay28_ok : LayOk1 Try.prog 28 lay28 := ⟨by kernel_rfl, by kernel_rfl⟩
def lay29 : Lay := ⟨.map 3 4, 1, 8, [.map none]⟩
theorem lay29_ok : LayOk1 Try.prog 29 lay29 := ⟨by kernel_rfl, by kernel_rfl⟩
def lay31 : Lay := ⟨.fn, 1, 8, [.nilFunc]⟩
theorem lay31_ok : LayOk1 Try.prog 31 lay31 := ⟨by kernel_rfl, by kernel_rfl⟩
def lay32 : Lay := ⟨.fn, 1, 8, [.nilFunc]⟩
theorem lay32_ok : LayOk1 Try.prog 32 lay32 := ⟨by kernel_rfl, by kernel_rfl⟩
def lay33 : Lay := ⟨.fn, 1, 8, [.nilFunc]⟩
theorem lay33_ok : LayOk1 Try.prog 33 lay33 := ⟨by kernel_rfl, by kernel_rfl⟩
def lay34 : Lay := ⟨.fn, 1, 8, [.nilFunc]⟩
theorem lay34_ok : LayOk1 Try.prog 34 lay34 := ⟨by kernel_rfl, by kernel_rfl⟩
def lay35 : Lay := ⟨.fn, 1, 8, [.nilFunc]⟩
theorem lay35_ok : LayOk1 Try.prog 35 lay35 := ⟨by kernel_rfl, by kernel_rfl⟩
def lay36 : Lay := ⟨.int .u64, 1, 8, [.int .u64 0]⟩
theorem lay36_ok : LayOk1 Try.prog 36 lay36 := ⟨by kernel_rfl, by kernel_rfl⟩
def lay37 : Lay := ⟨.int .u64, 1, 8, [.int .u64 0]⟩
theorem lay37_ok : LayOk1 Try.prog 37 lay37 := ⟨by kernel_rfl, by kernel_rfl⟩
def lay38 : Lay := ⟨.st [(0, 37), (1, 37), (2, 37), (3, 37)], 4, 32, [.int .u64 0, .int .u64 0, .int .u64 0, .int .u64 0]⟩
theorem lay38_ok : LayOk1 Try.prog 38 lay38 := ⟨by kernel_rfl, by kernel_rfl⟩
def lay39 : Lay := ⟨.st [(0, 37), (1, 37), (2, 37), (3, 37)], 4, 32, [.int .u64 0, .int .u64 0, .int .u64 0, .int .u64 0]⟩
theorem lay39_ok : LayOk1 Try.prog 39 lay39 := ⟨by kernel_rfl, by kernel_rfl⟩
def lay40 : Lay := ⟨.sl 190, 1, 24, [.slice none 0 0]⟩
theorem lay40_ok : LayOk1 Try.prog 40 lay40 := ⟨by kernel_rfl, by kernel_rfl⟩
def lay41 : Lay := ⟨.st [(0, 3), (1, 39), (5, 22), (6, 40)], 7, 88, [.int .i64 0, .int .u64 0, .int .u64 0, .int .u64 0, .int .u64 0, .slice none 0 0, .slice none 0 0]⟩
theorem lay41_ok : LayOk1 Try.prog 41 lay41 := ⟨by kernel_rfl, by kernel_rfl⟩
def lay42 : Lay := ⟨.st [(0, 3), (1, 39), (5, 22), (6, 40)], 7, 88, [.int .i64 0, .int .u64 0, .int .u64 0, .int .u64 0, .int .u64 0, .slice none 0 0, .slice none 0 0]⟩
theorem lay42_ok : LayOk1 Try.prog 42 lay42 := ⟨by kernel_rfl, by kernel_rfl⟩
def lay44 : Lay := ⟨.fn, 1, 8, [.nilFunc]⟩
theorem lay44_ok : LayOk1 Try.prog 44 lay44 := ⟨by kernel_rfl, by kernel_rfl⟩
def lay45 : Lay := ⟨.fn, 1, 8, [.nilFunc]⟩
theorem lay45_ok : LayOk1 Try.prog 45 lay45 := ⟨by kernel_rfl, by kernel_rfl⟩
def lay46 : Lay := ⟨.fn, 1, 8, [.nilFunc]⟩
theorem lay46_ok : LayOk1 Try.prog 46 lay46 := ⟨by kernel_rfl, by kernel_rfl⟩
def lay47 : Lay := ⟨.sl 54, 1, 24, [.slice none 0 0]⟩
theorem lay47_ok : LayOk1 Try.prog 47 lay47 := ⟨by kernel_rfl, by kernel_rfl⟩
def lay48 : Lay := ⟨.sl 91, 1, 24, [.slice none 0 0]⟩
theorem lay48_ok : LayOk1 Try.prog 48 lay48 := ⟨by kernel_rfl, by kernel_rfl⟩
def lay49 : Lay := ⟨.st [(0, 48), (1, 22)], 2, 48, [.slice none 0 0, .slice none 0 0]⟩
theorem lay49_ok : LayOk1 Try.prog 49 lay49 := ⟨by kernel_rfl, by kernel_rfl⟩
def lay50 : Lay := ⟨.st [(0, 48), (1, 22)], 2, 48, [.slice none 0 0, .slice none 0 0]⟩
theorem lay50_ok : LayOk1 Try.prog 50 lay50 := ⟨by kernel_rfl, by kernel_rfl⟩
def lay52 : Lay := ⟨.fn, 1, 8, [.nilFunc]⟩
theorem lay52_ok : LayOk1 Try.prog 52 lay52 := ⟨by kernel_rfl, by kernel_rfl⟩
def lay53 : Lay := ⟨.st [(0, 2), (1, 2)], 2, 16, [.int .i64 0, .int .i64 0]⟩
theorem lay53_ok : LayOk1 Try.prog 53 lay53 := ⟨by kernel_rfl, by kernel_rfl⟩
def lay54 : Lay := ⟨.st [(0, 2), (1, 2)], 2, 16, [.int .i64 0, .int .i64 0]⟩
theorem lay54_ok : LayOk1 Try.prog 54 lay54 := ⟨by kernel_rfl, by kernel_rfl⟩
def lay56 : Lay := ⟨.fn, 1, 8, [.nilFunc]⟩
theorem lay56_ok : LayOk1 Try.prog 56 lay56 := ⟨by kernel_rfl, by kernel_rfl⟩
def lay57 : Lay := ⟨.fn, 1, 8, [.nilFunc]⟩
theorem lay57_ok : LayOk1 Try.prog 57 lay57 := ⟨by kernel_rfl, by kernel_rfl⟩
def lay59 : Lay := ⟨.fn, 1, 8, [.nilFunc]⟩
theorem lay59_ok : LayOk1 Try.prog 59 lay59 := ⟨by kernel_rfl, by kernel_rfl⟩
def lay61 : Lay := ⟨.fn, 1, 8, [.nilFunc]⟩
theorem lay61_ok : LayOk1 Try.prog 61 lay61 := ⟨by kernel_rfl, by kernel_rfl⟩
def lay62 : Lay := ⟨.fn, 1, 8, [.nilFunc]⟩
theorem lay62_ok : LayOk1 Try.prog 62 lay62 := ⟨by kernel_rfl, by kernel_rfl⟩
def lay63 : Lay := ⟨.fn, 1, 8, [.nilFunc]⟩
theorem lay63_ok : LayOk1 Try.prog 63 lay63 := ⟨by kernel_rfl, by kernel_rfl⟩
def lay64 : Lay := ⟨.fn, 1, 8, [.nilFunc]⟩
theorem lay64_ok : LayOk1 Try.prog 64 lay64 := ⟨by kernel_rfl, by kernel_rfl⟩
def lay65 : Lay := ⟨.fn, 1, 8, [.nilFunc]⟩
theorem lay65_ok : LayOk1 Try.prog 65 lay65 := ⟨by kernel_rfl, by kernel_rfl⟩
def lay66 : Lay := ⟨.fn, 1, 8, [.nilFunc]⟩
theorem lay66_ok : LayOk1 Try.prog 66 lay66 := ⟨by kernel_rfl, by kernel_rfl⟩
def lay67 : Lay := ⟨.fn, 1, 8, [.nilFunc]⟩
theorem lay67_ok : LayOk1 Try.prog 67 lay67 := ⟨by kernel_rfl, by kernel_rfl⟩
def lay68 : Lay := ⟨.fn, 1, 8, [.nilFunc]⟩
theorem lay68_ok : LayOk1 Try.prog 68 lay68 := ⟨by kernel_rfl, by kernel_rfl⟩
def lay69 : Lay := ⟨.fn, 1, 8, [.nilFunc]⟩
theorem lay69_ok : LayOk1 Try.prog 69 lay69 := ⟨by kernel_rfl, by kernel_rfl⟩
def lay70 : Lay := ⟨.fn, 1, 8, [.nilFunc]⟩
theorem lay70_ok : LayOk1 Try.prog 70 lay70 := ⟨by kernel_rfl, by kernel_rfl⟩
def lay72 : Lay := ⟨.fn, 1, 8, [.nilFunc]⟩
theorem lay72_ok : LayOk1 Try.prog 72 lay72 := ⟨by kernel_rfl, by kernel_rfl⟩
def lay74 : Lay := ⟨.fn, 1, 8, [.nilFunc]⟩
theorem lay74_ok : LayOk1 Try.prog 74 lay74 := ⟨by kernel_rfl, by kernel_rfl⟩
def lay76 : Lay := ⟨.fn, 1, 8, [.nilFunc]⟩
theorem lay76_ok : LayOk1 Try.prog 76 lay76 := ⟨by kernel_rfl, by kernel_rfl⟩
def lay77 : Lay := ⟨.fn, 1, 8, [.nilFunc]⟩
theorem lay77_ok : LayOk1 Try.prog 77 lay77 := ⟨by kernel_rfl, by kernel_rfl⟩
def lay78 : Lay := ⟨.fn, 1, 8, [.nilFunc]⟩
theorem lay78_ok : LayOk1 Try.prog 78 lay78 := ⟨by kernel_rfl, by kernel_rfl⟩
def lay79 : Lay := ⟨.fn, 1, 8, [.nilFunc]⟩
theorem lay79_ok : LayOk1 Try.prog 79 lay79 := ⟨by kernel_rfl, by kernel_rfl⟩
def lay80 : Lay := ⟨.fn, 1, 8, [.nilFunc]⟩
theorem lay80_ok : LayOk1 Try.prog 80 lay80 := ⟨by kernel_rfl, by kernel_rfl⟩
def lay81 : Lay := ⟨.fn, 1, 8, [.nilFunc]⟩
theorem lay81_ok : LayOk1 Try.prog 81 lay81 := ⟨by kernel_rfl, by kernel_rfl⟩
def lay82 : Lay := ⟨.fn, 1, 8, [.nilFunc]⟩
theorem lay82_ok : LayOk1 Try.prog 82 lay82 := ⟨by kernel_rfl, by kernel_rfl⟩
def lay83 : Lay := ⟨.fn, 1, 8, [.nilFunc]⟩
theorem lay83_ok : LayOk1 Try.prog 83 lay83 := ⟨by kernel_rfl, by kernel_rfl⟩
def lay84 : Lay := ⟨.fn, 1, 8, [.nilFunc]⟩
theorem lay84_ok : LayOk1 Try.prog 84 lay84 := ⟨by kernel_rfl, by kernel_rfl⟩
def lay85 : Lay := ⟨.fn, 1, 8, [.nilFunc]⟩
theorem lay85_ok : LayOk1 Try.prog 85 lay85 := ⟨by kernel_rfl, by kernel_rfl⟩
def lay86 : Lay := ⟨.fn, 1, 8, [.nilFunc]⟩
theorem lay86_ok : LayOk1 Try.prog 86 lay86 := ⟨by kernel_rfl, by kernel_rfl⟩
def lay87 : Lay := ⟨.sl 37, 1, 24, [.slice none 0 0]⟩
theorem lay87_ok : LayOk1 Try.prog 87 lay87 := ⟨by kernel_rfl, by kernel_rfl⟩
def lay88 : Lay := ⟨.ptr 109, 1, 8, [.pointer none]⟩
theorem lay88_ok : LayOk1 Try.prog 88 lay88 := ⟨by kernel_rfl, by kernel_rfl⟩
def lay89 : Lay := ⟨.arr 9 37, 9, 72, [.int .u64 0, .int .u64 0, .int .u64 0, .int .u64 0, .int .u64 0, .int .u64 0, .int .u64 0, .int .u64 0, .int .u64 0]⟩
theorem lay89_ok : LayOk1 Try.prog 89 lay89 := ⟨by kernel_rfl, by kernel_rfl⟩
def lay90 : Lay := ⟨.st [(0, 3), (1, 3), (2, 2), (3, 2), (4, 2), (5, 89), (14, 3), (15, 3)], 16, 128, [.int .i64 0, .int .i64 0, .int .i64 0, .int .i64 0, .int .i64 0, .int .u64 0, .int .u64 0, .int .u64 0, .int .u64 0, .int .u64 0, .int .u64 0, .int .u64 0, .int .u64 0, .int .u64 0, .int .i64 0, .int .i64 0]⟩
theorem lay90_ok : LayOk1 Try.prog 90 lay90 := ⟨by kernel_rfl, by kernel_rfl⟩
def lay91 : Lay := ⟨.st [(0, 3), (1, 3), (2, 2), (3, 2), (4, 2), (5, 89), (14, 3), (15, 3)], 16, 128, [.int .i64 0, .int .i64 0, .int .i64 0, .int .i64 0, .int .i64 0, .int .u64 0, .int .u64 0, .int .u64 0, .int .u64 0, .int .u64 0, .int .u64 0, .int .u64 0, .int .u64 0, .int .u64 0, .int .i64 0, .int .i64 0]⟩
theorem lay91_ok : LayOk1 Try.prog 91 lay91 := ⟨by kernel_rfl, by kernel_rfl⟩
def lay92 : Lay := ⟨.fn, 1, 8, [.nilFunc]⟩
theorem lay92_ok : LayOk1 Try.prog 92 lay92 := ⟨by kernel_rfl, by kernel_rfl⟩
def lay93 : Lay := ⟨.fn, 1, 8, [.nilFunc]⟩
theorem lay93_ok : LayOk1 Try.prog 93 lay93 := ⟨by kernel_rfl, by kernel_rfl⟩
def lay94 : Lay := ⟨.fn, 1, 8, [.nilFunc]⟩
theorem lay94_ok : LayOk1 Try.prog 94 lay94 := ⟨by kernel_rfl, by kernel_rfl⟩
def lay95 : Lay := ⟨.fn, 1, 8, [.nilFunc]⟩
theorem lay95_ok : LayOk1 Try.prog 95 lay95 := ⟨by kernel_rfl, by kernel_rfl⟩
def lay96 : Lay := ⟨.fn, 1, 8, [.nilFunc]⟩
theorem lay96_ok : LayOk1 Try.prog 96 lay96 := ⟨by kernel_rfl, by kernel_rfl⟩
def lay97 : Lay := ⟨.fn, 1, 8, [.nilFunc]⟩
theorem lay97_ok : LayOk1 Try.prog 97 lay97 := ⟨by kernel_rfl, by kernel_rfl⟩
def lay98 : Lay := ⟨.fn, 1, 8, [.nilFunc]⟩
theorem lay98_ok : LayOk1 Try.prog 98 lay98 := ⟨by kernel_rfl, by kernel_rfl⟩
def lay99 : Lay := ⟨.fn, 1, 8, [.nilFunc]⟩
theorem lay99_ok : LayOk1 Try.prog 99 lay99 := ⟨by kernel_rfl, by kernel_rfl⟩
def lay100 : Lay := ⟨.fn, 1, 8, [.nilFunc]⟩
theorem lay100_ok : LayOk1 Try.prog 100 lay100 := ⟨by kernel_rfl, by kernel_rfl⟩
def lay101 : Lay := ⟨.st [(0, 22), (1, 47), (2, 4)], 3, 56, [.slice none 0 0, .slice none 0 0, .bool false]⟩
theorem lay101_ok : LayOk1 Try.prog 101 lay101 := ⟨by kernel_rfl, by kernel_rfl⟩
def lay102 : Lay := ⟨.st [(0, 22), (1, 47), (2, 4)], 3, 56, [.slice none 0 0, .slice none 0 0, .bool false]⟩
theorem lay102_ok : LayOk1 Try.prog 102 lay102 := ⟨by kernel_rfl, by kernel_rfl⟩
def lay103 : Lay := ⟨.fn, 1, 8, [.nilFunc]⟩
theorem lay103_ok : LayOk1 Try.prog 103 lay103 := ⟨by kernel_rfl, by kernel_rfl⟩
def lay105 : Lay := ⟨.fn, 1, 8, [.nilFunc]⟩
theorem lay105_ok : LayOk1 Try.prog 105 lay105 := ⟨by kernel_rfl, by kernel_rfl⟩
def lay106 : Lay := ⟨.fn, 1, 8, [.nilFunc]⟩
theorem lay106_ok : LayOk1 Try.prog 106 lay106 := ⟨by kernel_rfl, by kernel_rfl⟩
def lay107 : Lay := ⟨.fn, 1, 8, [.nilFunc]⟩
theorem lay107_ok : LayOk1 Try.prog 107 lay107 := ⟨by kernel_rfl, by kernel_rfl⟩
def lay108 : Lay := ⟨.st [(0, 50), (2, 26)], 3, 56, [.slice none 0 0, .slice none 0 0, .int .i64 0]⟩
theorem lay108_ok : LayOk1 Try.prog 108 lay108 := ⟨by kernel_rfl, by kernel_rfl⟩
def lay109 : Lay := ⟨.st [(0, 50), (2, 26)], 3, 56, [.slice none 0 0, .slice none 0 0, .int .i64 0]⟩
theorem lay109_ok : LayOk1 Try.prog 109 lay109 := ⟨by kernel_rfl, by kernel_rfl⟩
def lay110 : Lay := ⟨.fn, 1, 8, [.nilFunc]⟩
theorem lay110_ok : LayOk1 Try.prog 110 lay110 := ⟨by kernel_rfl, by kernel_rfl⟩
def lay111 : Lay := ⟨.int .u64, 1, 8, [.int .u64 0]⟩
theorem lay111_ok : LayOk1 Try.prog 111 lay111 := ⟨by kernel_rfl, by kernel_rfl⟩
def lay113 : Lay := ⟨.fn, 1, 8, [.nilFunc]⟩
theorem lay113_ok : LayOk1 Try.prog 113 lay113 := ⟨by kernel_rfl, by kernel_rfl⟩
def lay114 : Lay := ⟨.fn, 1, 8, [.nilFunc]⟩
theorem lay114_ok : LayOk1 Try.prog 114 lay114 := ⟨by kernel_rfl, by kernel_rfl⟩
def lay115 : Lay := ⟨.fn, 1, 8, [.nilFunc]⟩
theorem lay115_ok : LayOk1 Try.prog 115 lay115 := ⟨by kernel_rfl, by kernel_rfl⟩
def lay118 : Lay := ⟨.fn, 1, 8, [.nilFunc]⟩
theorem lay118_ok : LayOk1 Try.prog 118 lay118 := ⟨by kernel_rfl, by kernel_rfl⟩
def lay119 : Lay := ⟨.fn, 1, 8, [.nilFunc]⟩
theorem lay119_ok : LayOk1 Try.prog 119 lay119 := ⟨by kernel_rfl, by kernel_rfl⟩
def lay120 : Lay := ⟨.fn, 1, 8, [.nilFunc]⟩
theorem lay120_ok : LayOk1 Try.prog 120 lay120 := ⟨by kernel_rfl, by kernel_rfl⟩
def lay121 : Lay := ⟨.fn, 1, 8, [.nilFunc]⟩
theorem lay121_ok : LayOk1 Try.prog 121 lay121 := ⟨by kernel_rfl, by kernel_rfl⟩
def lay122 : Lay := ⟨.fn, 1, 8, [.nilFunc]⟩
theorem lay122_ok : LayOk1 Try.prog 122 lay122 := ⟨by kernel_rfl, by kernel_rfl⟩
def lay123 : Lay := ⟨.fn, 1, 8, [.nilFunc]⟩
theorem lay123_ok : LayOk1 Try.prog 123 lay123 := ⟨by kernel_rfl, by kernel_rfl⟩
def lay124 : Lay := ⟨.fn, 1, 8, [.nilFunc]⟩
theorem lay124_ok : LayOk1 Try.prog 124 lay124 := ⟨by kernel_rfl, by kernel_rfl⟩
def lay125 : Lay := ⟨.fn, 1, 8, [.nilFunc]⟩
theorem lay125_ok : LayOk1 Try.prog 125 lay125 := ⟨by kernel_rfl, by kernel_rfl⟩
def lay126 : Lay := ⟨.fn, 1, 8, [.nilFunc]⟩
theorem lay126_ok : LayOk1 Try.prog 126 lay126 := ⟨by kernel_rfl, by kernel_rfl⟩
def lay127 : Lay := ⟨.fn, 1, 8, [.nilFunc]⟩
theorem lay127_ok : LayOk1 Try.prog 127 lay127 := ⟨by kernel_rfl, by kernel_rfl⟩
def lay128 : Lay := ⟨.fn, 1, 8, [.nilFunc]⟩
theorem lay128_ok : LayOk1 Try.prog 128 lay128 := ⟨by kernel_rfl, by kernel_rfl⟩
def lay129 : Lay := ⟨.sl 4, 1, 24, [.slice none 0 0]⟩
theorem lay129_ok : LayOk1 Try.prog 129 lay129 := ⟨by kernel_rfl, by kernel_rfl⟩
def lay130 : Lay := ⟨.fn, 1, 8, [.nilFunc]⟩
theorem lay130_ok : LayOk1 Try.prog 130 lay130 := ⟨by kernel_rfl, by kernel_rfl⟩
def lay131 : Lay := ⟨.fn, 1, 8, [.nilFunc]⟩
theorem lay131_ok : LayOk1 Try.prog 131 lay131 := ⟨by kernel_rfl, by kernel_rfl⟩
def lay132 : Lay := ⟨.fn, 1, 8, [.nilFunc]⟩
theorem lay132_ok : LayOk1 Try.prog 132 lay132 := ⟨by kernel_rfl, by kernel_rfl⟩
def lay133 : Lay := ⟨.fn, 1, 8, [.nilFunc]⟩
theorem lay133_ok : LayOk1 Try.prog 133 lay133 := ⟨by kernel_rfl, by kernel_rfl⟩
def lay134 : Lay := ⟨.fn, 1, 8, [.nilFunc]⟩
theorem lay134_ok : LayOk1 Try.prog 134 lay134 := ⟨by kernel_rfl, by kernel_rfl⟩
def lay135 : Lay := ⟨.fn, 1, 8, [.nilFunc]⟩
theorem lay135_ok : LayOk1 Try.prog 135 lay135 := ⟨by kernel_rfl, by kernel_rfl⟩
def lay136 : Lay := ⟨.fn, 1, 8, [.nilFunc]⟩
theorem lay136_ok : LayOk1 Try.prog 136 lay136 := ⟨by kernel_rfl, by kernel_rfl⟩
def lay137 : Lay := ⟨.int .u32, 1, 4, [.int .u32 0]⟩
theorem lay137_ok : LayOk1 Try.prog 137 lay137 := ⟨by kernel_rfl, by kernel_rfl⟩
def lay139 : Lay := ⟨.fn, 1, 8, [.nilFunc]⟩
theorem lay139_ok : LayOk1 Try.prog 139 lay139 := ⟨by kernel_rfl, by kernel_rfl⟩
def lay141 : Lay := ⟨.fn, 1, 8, [.nilFunc]⟩
theorem lay141_ok : LayOk1 Try.prog 141 lay141 := ⟨by kernel_rfl, by kernel_rfl⟩
def lay142 : Lay := ⟨.fn, 1, 8, [.nilFunc]⟩
theorem lay142_ok : LayOk1 Try.prog 142 lay142 := ⟨by kernel_rfl, by kernel_rfl⟩
def lay143 : Lay := ⟨.fn, 1, 8, [.nilFunc]⟩
theorem lay143_ok : LayOk1 Try.prog 143 lay143 := ⟨by kernel_rfl, by kernel_rfl⟩
def lay144 : Lay := ⟨.fn, 1, 8, [.nilFunc]⟩
theorem lay144_ok : LayOk1 Try.prog 144 lay144 := ⟨by kernel_rfl, by kernel_rfl⟩
def lay145 : Lay := ⟨.fn, 1, 8, [.nilFunc]⟩
theorem lay145_ok : LayOk1 Try.prog 145 lay145 := ⟨by kernel_rfl, by kernel_rfl⟩
def lay146 : Lay := ⟨.fn, 1, 8, [.nilFunc]⟩
theorem lay146_ok : LayOk1 Try.prog 146 lay146 := ⟨by kernel_rfl, by kernel_rfl⟩
def lay147 : Lay := ⟨.fn, 1, 8, [.nilFunc]⟩
theorem lay147_ok : LayOk1 Try.prog 147 lay147 := ⟨by kernel_rfl, by kernel_rfl⟩
def lay148 : Lay := ⟨.fn, 1, 8, [.nilFunc]⟩
theorem lay148_ok : LayOk1 Try.prog 148 lay148 := ⟨by kernel_rfl, by kernel_rfl⟩
def lay149 : Lay := ⟨.fn, 1, 8, [.nilFunc]⟩
theorem lay149_ok : LayOk1 Try.prog 149 lay149 := ⟨by kernel_rfl, by kernel_rfl⟩
def lay150 : Lay := ⟨.int .u64, 1, 8, [.int .u64 0]⟩
theorem lay150_ok : LayOk1 Try.prog 150 lay150 := ⟨by kernel_rfl, by kernel_rfl⟩
def lay151 : Lay := ⟨.fn, 1, 8, [.nilFunc]⟩
theorem lay151_ok : LayOk1 Try.prog 151 lay151 := ⟨by kernel_rfl, by kernel_rfl⟩
def lay152 : Lay := ⟨.int .i64, 1, 8, [.int .i64 0]⟩
theorem lay152_ok : LayOk1 Try.prog 152 lay152 := ⟨by kernel_rfl, by kernel_rfl⟩
def lay154 : Lay := ⟨.fn, 1, 8, [.nilFunc]⟩
theorem lay154_ok : LayOk1 Try.prog 154 lay154 := ⟨by kernel_rfl, by kernel_rfl⟩
def lay155 : Lay := ⟨.fn, 1, 8, [.nilFunc]⟩
theorem lay155_ok : LayOk1 Try.prog 155 lay155 := ⟨by kernel_rfl, by kernel_rfl⟩
def lay156 : Lay := ⟨.fn, 1, 8, [.nilFunc]⟩
theorem lay156_ok : LayOk1 Try.prog 156 lay156 := ⟨by kernel_rfl, by kernel_rfl⟩
def lay158 : Lay := ⟨.fn, 1, 8, [.nilFunc]⟩
theorem lay158_ok : LayOk1 Try.prog 158 lay158 := ⟨by kernel_rfl, by kernel_rfl⟩
def lay159 : Lay := ⟨.fn, 1, 8, [.nilFunc]⟩
theorem lay159_ok : LayOk1 Try.prog 159 lay159 := ⟨by kernel_rfl, by kernel_rfl⟩
def lay160 : Lay := ⟨.fn, 1, 8, [.nilFunc]⟩
theorem lay160_ok : LayOk1 Try.prog 160 lay160 := ⟨by kernel_rfl, by kernel_rfl⟩
def lay161 : Lay := ⟨.fn, 1, 8, [.nilFunc]⟩
theorem lay161_ok : LayOk1 Try.prog 161 lay161 := ⟨by kernel_rfl, by kernel_rfl⟩
def lay162 : Lay := ⟨.fn, 1, 8, [.nilFunc]⟩
theorem lay162_ok : LayOk1 Try.prog 162 lay162 := ⟨by kernel_rfl, by kernel_rfl⟩
def lay163 : Lay := ⟨.fn, 1, 8, [.nilFunc]⟩
theorem lay163_ok : LayOk1 Try.prog 163 lay163 := ⟨by kernel_rfl, by kernel_rfl⟩
def lay164 : Lay := ⟨.fn, 1, 8, [.nilFunc]⟩
theorem lay164_ok : LayOk1 Try.prog 164 lay164 := ⟨by kernel_rfl, by kernel_rfl⟩
def lay165 : Lay := ⟨.int .u64, 1, 8, [.int .u64 0]⟩
theorem lay165_ok : LayOk1 Try.prog 165 lay165 := ⟨by kernel_rfl, by kernel_rfl⟩
def lay166 : Lay := ⟨.fn, 1, 8, [.nilFunc]⟩
theorem lay166_ok : LayOk1 Try.prog 166 lay166 := ⟨by kernel_rfl, by kernel_rfl⟩
def lay167 : Lay := ⟨.fn, 1, 8, [.nilFunc]⟩
theorem lay167_ok : LayOk1 Try.prog 167 lay167 := ⟨by kernel_rfl, by kernel_rfl⟩
def lay168 : Lay := ⟨.fn, 1, 8, [.nilFunc]⟩
theorem lay168_ok : LayOk1 Try.prog 168 lay168 := ⟨by kernel_rfl, by kernel_rfl⟩
def lay169 : Lay := ⟨.ptr 3, 1, 8, [.pointer none]⟩
theorem lay169_ok : LayOk1 Try.prog 169 lay169 := ⟨by kernel_rfl, by kernel_rfl⟩
def lay170 : Lay := ⟨.fn, 1, 8, [.nilFunc]⟩
theorem lay170_ok : LayOk1 Try.prog 170 lay170 := ⟨by kernel_rfl, by kernel_rfl⟩
def lay171 : Lay := ⟨.fn, 1, 8, [.nilFunc]⟩
theorem lay171_ok : LayOk1 Try.prog 171 lay171 := ⟨by kernel_rfl, by kernel_rfl⟩
def lay172 : Lay := ⟨.ptr 165, 1, 8, [.pointer none]⟩
theorem lay172_ok : LayOk1 Try.prog 172 lay172 := ⟨by kernel_rfl, by kernel_rfl⟩
def lay174 : Lay := ⟨.fn, 1, 8, [.nilFunc]⟩
theorem lay174_ok : LayOk1 Try.prog 174 lay174 := ⟨by kernel_rfl, by kernel_rfl⟩
def lay175 : Lay := ⟨.fn, 1, 8, [.nilFunc]⟩
theorem lay175_ok : LayOk1 Try.prog 175 lay175 := ⟨by kernel_rfl, by kernel_rfl⟩
def lay184 : Lay := ⟨.ptr 5, 1, 8, [.pointer none]⟩
theorem lay184_ok : LayOk1 Try.prog 184 lay184 := ⟨by kernel_rfl, by kernel_rfl⟩
def lay189 : Lay := ⟨.st [(0, 26), (1, 2), (2, 2)], 3, 24, [.int .i64 0, .int .i64 0, .int .i64 0]⟩
theorem lay189_ok : LayOk1 Try.prog 189 lay189 := ⟨by kernel_rfl, by kernel_rfl⟩
def lay190 : Lay := ⟨.st [(0, 26), (1, 2), (2, 2)], 3, 24, [.int .i64 0, .int .i64 0, .int .i64 0]⟩
theorem lay190_ok : LayOk1 Try.prog 190 lay190 := ⟨by kernel_rfl, by kernel_rfl⟩

def layL : List (Nat × Lay) := [(1, lay1), (2, lay2), (3, lay3), (4, lay4), (5, lay5), (9, lay9), (12, lay12), (21, lay21), (22, lay22), (23, lay23), (24, lay24), (25, lay25), (26, lay26), (28, lay28), (29, lay29), (31, lay31), (32, lay32), (33, lay33), (34, lay34), (35, lay35), (36, lay36), (37, lay37), (38, lay38), (39, lay39), (40, lay40), (41, lay41), (42, lay42), (44, lay44), (45, lay45), (46, lay46), (47, lay47), (48, lay48), (49, lay49), (50, lay50), (52, lay52), (53, lay53), (54, lay54), (56, lay56), (57, lay57), (59, lay59), (61, lay61), (62, lay62), (63, lay63), (64, lay64), (65, lay65), (66, lay66), (67, lay67), (68, lay68), (69, lay69), (70, lay70), (72, lay72), (74, lay74), (76, lay76), (77, lay77), (78, lay78), (79, lay79), (80, lay80), (81, lay81), (82, lay82), (83, lay83), (84, lay84), (85, lay85), (86, lay86), (87, lay87), (88, lay88), (89, lay89), (90, lay90), (91, lay91), (92, lay92), (93, lay93), (94, lay94), (95, lay95), (96, lay96), (97, lay97), (98, lay98), (99, lay99), (100, lay100), (101, lay101), (102, lay102), (103, lay103), (105, lay105), (106, lay106), (107, lay107), (108, lay108), (109, lay109), (110, lay110), (111, lay111), (113, lay113), (114, lay114), (115, lay115), (118, lay118), (119, lay119), (120, lay120), (121, lay121), (122, lay122), (123, lay123), (124, lay124), (125, lay125), (126, lay126), (127, lay127), (128, lay128), (129, lay129), (130, lay130), (131, lay131), (132, lay132), (133, lay133), (134, lay134), (135, lay135), (136, lay136), (137, lay137), (139, lay139), (141, lay141), (142, lay142), (143, lay143), (144, lay144), (145, lay145), (146, lay146), (147, lay147), (148, lay148), (149, lay149), (150, lay150), (151, lay151), (152, lay152), (154, lay154), (155, lay155), (156, lay156), (158, lay158), (159, lay159), (160, lay160), (161, lay161), (162, lay162), (163, lay163), (164, lay164), (165, lay165), (166, lay166), (167, lay167), (168, lay168), (169, lay169), (170, lay170), (171, lay171), (172, lay172), (174, lay174), (175, lay175), (184, lay184), (189, lay189), (190, lay190)]
def lk : List (Nat × Lay) → Nat → Option Lay
  | [], _ => none
  | (k, v) :: l, t => bif Nat.beq t k then some v else lk l t
def lay : Lays := fun t => lk layL t
def AllL (p : Nat → Lay → Prop) : List (Nat × Lay) → Prop
  | [] => True
  | (k, v) :: l => p k v ∧ AllL p l
theorem lk_all {p : Nat → Lay → Prop} : ∀ (l : List (Nat × Lay)), AllL p l → ∀ t x, lk l t = some x → p t x
  | [], _, t, x, h => by simp [lk] at h
  | (k, v) :: l, ha, t, x, h => by
    simp only [lk] at h
    cases hb : Nat.beq t k with
    | true => rw [hb] at h; simp at h; subst h; rw [Nat.eq_of_beq_eq_true hb]; exact ha.1
    | false => rw [hb] at h; exact lk_all l ha.2 t x h
theorem layL_ok : AllL (LayOk1 Try.prog) layL := ⟨lay1_ok, lay2_ok, lay3_ok, lay4_ok, lay5_ok, lay9_ok, lay12_ok, lay21_ok, lay22_ok, lay23_ok, lay24_ok, lay25_ok, lay26_ok, lay28_ok, lay29_ok, lay31_ok, lay32_ok, lay33_ok, lay34_ok, lay35_ok, lay36_ok, lay37_ok, lay38_ok, lay39_ok, lay40_ok, lay41_ok, lay42_ok, lay44_ok, lay45_ok, lay46_ok, lay47_ok, lay48_ok, lay49_ok, lay50_ok, lay52_ok, lay53_ok, lay54_ok, lay56_ok, lay57_ok, lay59_ok, lay61_ok, lay62_ok, lay63_ok, lay64_ok, lay65_ok, lay66_ok, lay67_ok, lay68_ok, lay69_ok, lay70_ok, lay72_ok, lay74_ok, lay76_ok, lay77_ok, lay78_ok, lay79_ok, lay80_ok, lay81_ok, lay82_ok, lay83_ok, lay84_ok, lay85_ok, lay86_ok, lay87_ok, lay88_ok, lay89_ok, lay90_ok, lay91_ok, lay92_ok, lay93_ok, lay94_ok, lay95_ok, lay96_ok, lay97_ok, lay98_ok, lay99_ok, lay100_ok, lay101_ok, lay102_ok, lay103_ok, lay105_ok, lay106_ok, lay107_ok, lay108_ok, lay109_ok, lay110_ok, lay111_ok, lay113_ok, lay114_ok, lay115_ok, lay118_ok, lay119_ok, lay120_ok, lay121_ok, lay122_ok, lay123_ok, lay124_ok, lay125_ok, lay126_ok, lay127_ok, lay128_ok, lay129_ok, lay130_ok, lay131_ok, lay132_ok, lay133_ok, lay134_ok, lay135_ok, lay136_ok, lay137_ok, lay139_ok, lay141_ok, lay142_ok, lay143_ok, lay144_ok, lay145_ok, lay146_ok, lay147_ok, lay148_ok, lay149_ok, lay150_ok, lay151_ok, lay152_ok, lay154_ok, lay155_ok, lay156_ok, lay158_ok, lay159_ok, lay160_ok, lay161_ok, lay162_ok, lay163_ok, lay164_ok, lay165_ok, lay166_ok, lay167_ok, lay168_ok, lay169_ok, lay170_ok, lay171_ok, lay172_ok, lay174_ok, lay175_ok, lay184_ok, lay189_ok, lay190_ok, trivial⟩
theorem lay9_eq : EqOk Try.prog 9 := ⟨by kernel_rfl, by kernel_rfl, names_ok (by kernel_rfl)⟩
theorem lay24_eq : EqOk Try.prog 24 := ⟨by kernel_rfl, by kernel_rfl, names_ok (by kernel_rfl)⟩
theorem lay25_eq : EqOk Try.prog 25 := ⟨by kernel_rfl, by kernel_rfl, names_ok (by kernel_rfl)⟩
theorem lay38_eq : EqOk Try.prog 38 := ⟨by kernel_rfl, by kernel_rfl, names_ok (by kernel_rfl)⟩
theorem lay39_eq : EqOk Try.prog 39 := ⟨by kernel_rfl, by kernel_rfl, names_ok (by kernel_rfl)⟩
theorem lay41_eq : EqOk Try.prog 41 := ⟨by kernel_rfl, by kernel_rfl, names_ok (by kernel_rfl)⟩
theorem lay42_eq : EqOk Try.prog 42 := ⟨by kernel_rfl, by kernel_rfl, names_ok (by kernel_rfl)⟩
theorem lay49_eq : EqOk Try.prog 49 := ⟨by kernel_rfl, by kernel_rfl, names_ok (by kernel_rfl)⟩
theorem lay50_eq : EqOk Try.prog 50 := ⟨by kernel_rfl, by kernel_rfl, names_ok (by kernel_rfl)⟩
theorem lay53_eq : EqOk Try.prog 53 := ⟨by kernel_rfl, by kernel_rfl, names_ok (by kernel_rfl)⟩
theorem lay54_eq : EqOk Try.prog 54 := ⟨by kernel_rfl, by kernel_rfl, names_ok (by kernel_rfl)⟩
theorem lay90_eq : EqOk Try.prog 90 := ⟨by kernel_rfl, by kernel_rfl, names_ok (by kernel_rfl)⟩
theorem lay91_eq : EqOk Try.prog 91 := ⟨by kernel_rfl, by kernel_rfl, names_ok (by kernel_rfl)⟩
theorem lay101_eq : EqOk Try.prog 101 := ⟨by kernel_rfl, by kernel_rfl, names_ok (by kernel_rfl)⟩
theorem lay102_eq : EqOk Try.prog 102 := ⟨by kernel_rfl, by kernel_rfl, names_ok (by kernel_rfl)⟩
theorem lay108_eq : EqOk Try.prog 108 := ⟨by kernel_rfl, by kernel_rfl, names_ok (by kernel_rfl)⟩
theorem lay109_eq : EqOk Try.prog 109 := ⟨by kernel_rfl, by kernel_rfl, names_ok (by kernel_rfl)⟩
theorem lay189_eq : EqOk Try.prog 189 := ⟨by kernel_rfl, by kernel_rfl, names_ok (by kernel_rfl)⟩
theorem lay190_eq : EqOk Try.prog 190 := ⟨by kernel_rfl, by kernel_rfl, names_ok (by kernel_rfl)⟩
theorem layL_eq : AllL (fun t L => isSt L.kind = true → EqOk Try.prog t) layL := ⟨fun h => Bool.noConfusion h, fun h => Bool.noConfusion h, fun h => Bool.noConfusion h, fun h => Bool.noConfusion h, fun h => Bool.noConfusion h, fun _ => lay9_eq, fun h => Bool.noConfusion h, fun h => Bool.noConfusion h, fun h => Bool.noConfusion h, fun h => Bool.noConfusion h, fun _ => lay24_eq, fun _ => lay25_eq, fun h => Bool.noConfusion h, fun h => Bool.noConfusion h, fun h => Bool.noConfusion h, fun h => Bool.noConfusion h, fun h => Bool.noConfusion h, fun h => Bool.noConfusion h, fun h => Bool.noConfusion h, fun h => Bool.noConfusion h, fun h => Bool.noConfusion h, fun h => Bool.noConfusion h, fun _ => lay38_eq, fun _ => lay39_eq, fun h => Bool.noConfusion h, fun _ => lay41_eq, fun _ => lay42_eq, fun h => Bool.noConfusion h, fun h => Bool.noConfusion h, fun h => Bool.noConfusion h, fun h => Bool.noConfusion h, fun h => Bool.noConfusion h, fun _ => lay49_eq, fun _ => lay50_eq, fun h => Bool.noConfusion h, fun _ => lay53_eq, fun _ => lay54_eq, fun h => Bool.noConfusion h, fun h => Bool.noConfusion h, fun h => Bool.noConfusion h, fun h => Bool.noConfusion h, fun h => Bool.noConfusion h, fun h => Bool.noConfusion h, fun h => Bool.noConfusion h, fun h => Bool.noConfusion h, fun h => Bool.noConfusion h, fun h => Bool.noConfusion h, fun h => Bool.noConfusion h, fun h => Bool.noConfusion h, fun h => Bool.noConfusion h, fun h => Bool.noConfusion h, fun h => Bool.noConfusion h, fun h => Bool.noConfusion h, fun h => Bool.noConfusion h, fun h => Bool.noConfusion h, fun h => Bool.noConfusion h, fun h => Bool.noConfusion h, fun h => Bool.noConfusion h, fun h => Bool.noConfusion h, fun h => Bool.noConfusion h, fun h => Bool.noConfusion h, fun h => Bool.noConfusion h, fun h => Bool.noConfusion h, fun h => Bool.noConfusion h, fun h => Bool.noConfusion h, fun h => Bool.noConfusion h, fun _ => lay90_eq, fun _ => lay91_eq, fun h => Bool.noConfusion h, fun h => Bool.noConfusion h, fun h => Bool.noConfusion h, fun h => Bool.noConfusion h, fun h => Bool.noConfusion h, fun h => Bool.noConfusion h, fun h => Bool.noConfusion h, fun h => Bool.noConfusion h, fun h => Bool.noConfusion h, fun _ => lay101_eq, fun _ => lay102_eq, fun h => Bool.noConfusion h, fun h => Bool.noConfusion h, fun h => Bool.noConfusion h, fun h => Bool.noConfusion h, fun _ => lay108_eq, fun _ => lay109_eq, fun h => Bool.noConfusion h, fun h => Bool.noConfusion h, fun h => Bool.noConfusion h, fun h => Bool.noConfusion h, fun h => Bool.noConfusion h, fun h => Bool.noConfusion h, fun h => Bool.noConfusion h, fun h => Bool.noConfusion h, fun h => Bool.noConfusion h, fun h => Bool.noConfusion h, fun h => Bool.noConfusion h, fun h => Bool.noConfusion h, fun h => Bool.noConfusion h, fun h => Bool.noConfusion h, fun h => Bool.noConfusion h, fun h => Bool.noConfusion h, fun h => Bool.noConfusion h, fun h => Bool.noConfusion h, fun h => Bool.noConfusion h, fun h => Bool.noConfusion h, fun h => Bool.noConfusion h, fun h => Bool.noConfusion h, fun h => Bool.noConfusion h, fun h => Bool.noConfusion h, fun h => Bool.noConfusion h, fun h => Bool.noConfusion h, fun h => Bool.noConfusion h, fun h => Bool.noConfusion h, fun h => Bool.noConfusion h, fun h => Bool.noConfusion h, fun h => Bool.noConfusion h, fun h => Bool.noConfusion h, fun h => Bool.noConfusion h, fun h => Bool.noConfusion h, fun h => Bool.noConfusion h, fun h => Bool.noConfusion h, fun h => Bool.noConfusion h, fun h => Bool.noConfusion h, fun h => Bool.noConfusion h, fun h => Bool.noConfusion h, fun h => Bool.noConfusion h, fun h => Bool.noConfusion h, fun h => Bool.noConfusion h, fun h => Bool.noConfusion h, fun h => Bool.noConfusion h, fun h => Bool.noConfusion h, fun h => Bool.noConfusion h, fun h => Bool.noConfusion h, fun h => Bool.noConfusion h, fun h => Bool.noConfusion h, fun h => Bool.noConfusion h, fun h => Bool.noConfusion h, fun h => Bool.noConfusion h, fun h => Bool.noConfusion h, fun h => Bool.noConfusion h, fun h => Bool.noConfusion h, fun h => Bool.noConfusion h, fun h => Bool.noConfusion h, fun h => Bool.noConfusion h, fun _ => lay189_eq, fun _ => lay190_eq, trivial⟩
theorem lay89_eqa : Try.prog.eqGuardType Try.prog.depth 89 = false := by kernel_rfl
def isArr : TK → Bool
  | .arr _ _ => true
  | _ => false
theorem layL_eqa : AllL (fun t L => isArr L.kind = true → Try.prog.eqGuardType Try.prog.depth t = false) layL := ⟨fun h => Bool.noConfusion h, fun h => Bool.noConfusion h, fun h => Bool.noConfusion h, fun h => Bool.noConfusion h, fun h => Bool.noConfusion h, fun h => Bool.noConfusion h, fun h => Bool.noConfusion h, fun h => Bool.noConfusion h, fun h => Bool.noConfusion h, fun h => Bool.noConfusion h, fun h => Bool.noConfusion h, fun h => Bool.noConfusion h, fun h => Bool.noConfusion h, fun h => Bool.noConfusion h, fun h => Bool.noConfusion h, fun h => Bool.noConfusion h, fun h => Bool.noConfusion h, fun h => Bool.noConfusion h, fun h => Bool.noConfusion h, fun h => Bool.noConfusion h, fun h => Bool.noConfusion h, fun h => Bool.noConfusion h, fun h => Bool.noConfusion h, fun h => Bool.noConfusion h, fun h => Bool.noConfusion h, fun h => Bool.noConfusion h, fun h => Bool.noConfusion h, fun h => Bool.noConfusion h, fun h => Bool.noConfusion h, fun h => Bool.noConfusion h, fun h => Bool.noConfusion h, fun h => Bool.noConfusion h, fun h => Bool.noConfusion h, fun h => Bool.noConfusion h, fun h => Bool.noConfusion h, fun h => Bool.noConfusion h, fun h => Bool.noConfusion h, fun h => Bool.noConfusion h, fun h => Bool.noConfusion h, fun h => Bool.noConfusion h, fun h => Bool.noConfusion h, fun h => Bool.noConfusion h, fun h => Bool.noConfusion h, fun h => Bool.noConfusion h, fun h => Bool.noConfusion h, fun h => Bool.noConfusion h, fun h => Bool.noConfusion h, fun h => Bool.noConfusion h, fun h => Bool.noConfusion h, fun h => Bool.noConfusion h, fun h => Bool.noConfusion h, fun h => Bool.noConfusion h, fun h => Bool.noConfusion h, fun h => Bool.noConfusion h, fun h => Bool.noConfusion h, fun h => Bool.noConfusion h, fun h => Bool.noConfusion h, fun h => Bool.noConfusion h, fun h => Bool.noConfusion h, fun h => Bool.noConfusion h, fun h => Bool.noConfusion h, fun h => Bool.noConfusion h, fun h => Bool.noConfusion h, fun h => Bool.noConfusion h, fun h => Bool.noConfusion h, fun _ => lay89_eqa, fun h => Bool.noConfusion h, fun h => Bool.noConfusion h, fun h => Bool.noConfusion h, fun h => Bool.noConfusion h, fun h => Bool.noConfusion h, fun h => Bool.noConfusion h, fun h => Bool.noConfusion h, fun h => Bool.noConfusion h, fun h => Bool.noConfusion h, fun h => Bool.noConfusion h, fun h => Bool.noConfusion h, fun h => Bool.noConfusion h, fun h => Bool.noConfusion h, fun h => Bool.noConfusion h, fun h => Bool.noConfusion h, fun h => Bool.noConfusion h, fun h => Bool.noConfusion h, fun h => Bool.noConfusion h, fun h => Bool.noConfusion h, fun h => Bool.noConfusion h, fun h => Bool.noConfusion h, fun h => Bool.noConfusion h, fun h => Bool.noConfusion h, fun h => Bool.noConfusion h, fun h => Bool.noConfusion h, fun h => Bool.noConfusion h, fun h => Bool.noConfusion h, fun h => Bool.noConfusion h, fun h => Bool.noConfusion h, fun h => Bool.noConfusion h, fun h => Bool.noConfusion h, fun h => Bool.noConfusion h, fun h => Bool.noConfusion h, fun h => Bool.noConfusion h, fun h => Bool.noConfusion h, fun h => Bool.noConfusion h, fun h => Bool.noConfusion h, fun h => Bool.noConfusion h, fun h => Bool.noConfusion h, fun h => Bool.noConfusion h, fun h => Bool.noConfusion h, fun h => Bool.noConfusion h, fun h => Bool.noConfusion h, fun h => Bool.noConfusion h, fun h => Bool.noConfusion h, fun h => Bool.noConfusion h, fun h => Bool.noConfusion h, fun h => Bool.noConfusion h, fun h => Bool.noConfusion h, fun h => Bool.noConfusion h, fun h => Bool.noConfusion h, fun h => Bool.noConfusion h, fun h => Bool.noConfusion h, fun h => Bool.noConfusion h, fun h => Bool.noConfusion h, fun h => Bool.noConfusion h, fun h => Bool.noConfusion h, fun h => Bool.noConfusion h, fun h => Bool.noConfusion h, fun h => Bool.noConfusion h, fun h => Bool.noConfusion h, fun h => Bool.noConfusion h, fun h => Bool.noConfusion h, fun h => Bool.noConfusion h, fun h => Bool.noConfusion h, fun h => Bool.noConfusion h, fun h => Bool.noConfusion h, fun h => Bool.noConfusion h, fun h => Bool.noConfusion h, fun h => Bool.noConfusion h, fun h => Bool.noConfusion h, fun h => Bool.noConfusion h, fun h => Bool.noConfusion h, fun h => Bool.noConfusion h, fun h => Bool.noConfusion h, fun h => Bool.noConfusion h, fun h => Bool.noConfusion h, fun h => Bool.noConfusion h, fun h => Bool.noConfusion h, fun h => Bool.noConfusion h, trivial⟩
theorem layL_zform : (layL.all fun p => (((Try.prog.info? p.1).bind fun i => i.zero.map aggOf) == some (isAgg p.2.kind))) = true := by kernel_rfl
theorem layL_zero : (layL.all fun p => p.2.zero.all (·.oneCell')) = true := by kernel_rfl
theorem layL_size : (layL.all fun p => Nat.beq p.2.zero.length p.2.size) = true := by kernel_rfl
def fieldsOk : Lay → Bool
  | ⟨.st fs, _, _, _⟩ => fieldsIn lay fs
  | _ => true
theorem layL_fields : (layL.all fun p => fieldsOk p.2) = true := by kernel_rfl
theorem lk_mem : ∀ (l : List (Nat × Lay)) (t : Nat) (x : Lay), lk l t = some x → (t, x) ∈ l
  | [], t, x, h => by simp [lk] at h
  | (k, v) :: l, t, x, h => by
    simp only [lk] at h
    cases hb : Nat.beq t k with
    | true => rw [hb] at h; simp at h; subst h; rw [Nat.eq_of_beq_eq_true hb]; exact List.mem_cons_self
    | false => rw [hb] at h; exact List.mem_cons_of_mem _ (lk_mem l t x h)
theorem good : Good Try.prog lay where
  lay := lk_all layL layL_ok
  zero t x h := by
    have := List.all_eq_true.1 layL_zero _ (lk_mem layL t x h)
    exact this
  size t x h := by
    have := List.all_eq_true.1 layL_size _ (lk_mem layL t x h)
    exact Nat.eq_of_beq_eq_true this
  fields t fs s b z h := by
    have := List.all_eq_true.1 layL_fields _ (lk_mem layL t _ h)
    exact this
  more :=
    { eqs := fun t fs s b z h => lk_all layL layL_eq t _ h rfl
      eqa := fun t n e s b z h => lk_all layL layL_eqa t _ h rfl
      size := fun t x h => Nat.eq_of_beq_eq_true (List.all_eq_true.1 layL_size _ (lk_mem layL t x h))
      zform := fun t x h => by
        have := List.all_eq_true.1 layL_zform _ (lk_mem layL t x h)
        exact eq_of_beq this }
#print axioms good
end Go.Proofs.Ytadgjhbhghhbgaa.Abs

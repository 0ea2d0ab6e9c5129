/-
  THE LAYOUTS OF THE TYPES OF THIS SEAT's PROGRAM, each held against the program by the kernel. Printed by this session's genlay.py.
-/
import Derived.Test.YtlogldffadeadaaProg
import Derived.Test.YtlogldffadeadaaB1
import Derived.KernelRfl
namespace Go.Proofs.Ytlogldffadeadaa.Abs
open Go

def lay1 : Lay := ⟨.fn, 1, 8, [.nilFunc]⟩
theorem lay1_ok : LayOk1 Try.prog 1 lay1 := ⟨by kernel_rfl, by kernel_rfl⟩
def lay2 : Lay := ⟨.int .i64, 1, 8, [.int .i64 0]⟩
theorem lay2_ok : LayOk1 Try.prog 2 lay2 := ⟨by kernel_rfl, by kernel_rfl⟩
def lay3 : Lay := ⟨.int .i64, 1, 8, [.int .i64 0]⟩
theorem lay3_ok : LayOk1 Try.prog 3 lay3 := ⟨by kernel_rfl, by kernel_rfl⟩
def lay4 : Lay := ⟨.bool, 1, 1, [.bool false]⟩
theorem lay4_ok : LayOk1 Try.prog 4 lay4 := ⟨by kernel_rfl, by kernel_rfl⟩
def lay5 : Lay := ⟨.int .u8, 1, 1, [.int .u8 0]⟩
theorem lay5_ok : LayOk1 Try.prog 5 lay5 := ⟨by kernel_rfl, by kernel_rfl⟩
def lay9 : Lay := ⟨.str, 1, 16, [.string .empty]⟩
theorem lay9_ok : LayOk1 Try.prog 9 lay9 := ⟨by kernel_rfl, by kernel_rfl⟩
def lay12 : Lay := ⟨.int .u64, 1, 8, [.int .u64 0]⟩
theorem lay12_ok : LayOk1 Try.prog 12 lay12 := ⟨by kernel_rfl, by kernel_rfl⟩
def lay21 : Lay := ⟨.int .i32, 1, 4, [.int .i32 0]⟩
theorem lay21_ok : LayOk1 Try.prog 21 lay21 := ⟨by kernel_rfl, by kernel_rfl⟩
def lay22 : Lay := ⟨.st [(0, 3), (1, 3), (2, 2), (3, 2)], 4, 32, [.int .i64 0, .int .i64 0, .int .i64 0, .int .i64 0]⟩
theorem lay22_ok : LayOk1 Try.prog 22 lay22 := ⟨by kernel_rfl, by kernel_rfl⟩
def lay23 : Lay := ⟨.st [(0, 3), (1, 3), (2, 2), (3, 2)], 4, 32, [.int .i64 0, .int .i64 0, .int .i64 0, .int .i64 0]⟩
theorem lay23_ok : LayOk1 Try.prog 23 lay23 := ⟨by kernel_rfl, by kernel_rfl⟩
def lay24 : Lay := ⟨.sl 29, 1, 24, [.slice none 0 0]⟩
theorem lay24_ok : LayOk1 Try.prog 24 lay24 := ⟨by kernel_rfl, by kernel_rfl⟩
def lay25 : Lay := ⟨.int .i64, 1, 8, [.int .i64 0]⟩
theorem lay25_ok : LayOk1 Try.prog 25 lay25 := ⟨by kernel_rfl, by kernel_rfl⟩
def lay27 : Lay := ⟨.fn, 1, 8, [.nilFunc]⟩
theorem lay27_ok : LayOk1 Try.prog 27 lay27 := ⟨by kernel_rfl, by kernel_rfl⟩
def lay28 : Lay := ⟨.fn, 1, 8, [.nilFunc]⟩
theorem lay28_ok : LayOk1 Try.prog 28 lay28 := ⟨by kernel_rfl, by kernel_rfl⟩
def lay29 : Lay := ⟨.int .u64, 1, 8, [.int .u64 0]⟩
theorem lay29_ok : LayOk1 Try.prog 29 lay29 := ⟨by kernel_rfl, by kernel_rfl⟩
def lay30 : Lay := ⟨.fn, 1, 8, [.nilFunc]⟩
theorem lay30_ok : LayOk1 Try.prog 30 lay30 := ⟨by kernel_rfl, by kernel_rfl⟩
def lay31 : Lay := ⟨.fn, 1, 8, [.nilFunc]⟩
theorem lay31_ok : LayOk1 Try.prog 31 lay31 := ⟨by kernel_rfl, by kernel_rfl⟩
def lay32 : Lay := ⟨.fn, 1, 8, [.nilFunc]⟩
theorem lay32_ok : LayOk1 Try.prog 32 lay32 := ⟨by kernel_rfl, by kernel_rfl⟩
def lay34 : Lay := ⟨.map 37 3, 1, 8, [.map none]⟩
theorem lay34_ok : LayOk1 Try.prog 34 lay34 := ⟨by kernel_rfl, by kernel_rfl⟩
def lay35 : Lay := ⟨.fn, 1, 8, [.nilFunc]⟩
theorem lay35_ok : LayOk1 Try.prog 35 lay35 := ⟨by kernel_rfl, by kernel_rfl⟩
def lay36 : Lay := ⟨.st [(0, 3), (1, 3)], 2, 16, [.int .i64 0, .int .i64 0]⟩
theorem lay36_ok : LayOk1 Try.prog 36 lay36 := ⟨by kernel_rfl, by kernel_rfl⟩
def lay37 : Lay := ⟨.st [(0, 3), (1, 3)], 2, 16, [.int .i64 0, .int .i64 0]⟩
theorem lay37_ok : LayOk1 Try.prog 37 lay37 := ⟨by kernel_rfl, by kernel_rfl⟩
def lay38 : Lay := ⟨.fn, 1, 8, [.nilFunc]⟩
theorem lay38_ok : LayOk1 Try.prog 38 lay38 := ⟨by kernel_rfl, by kernel_rfl⟩
def lay39 : Lay := ⟨.fn, 1, 8, [.nilFunc]⟩
theorem lay39_ok : LayOk1 Try.prog 39 lay39 := ⟨by kernel_rfl, by kernel_rfl⟩
def lay45 : Lay := ⟨.fn, 1, 8, [.nilFunc]⟩
theorem lay45_ok : LayOk1 Try.prog 45 lay45 := ⟨by kernel_rfl, by kernel_rfl⟩
def lay46 : Lay := ⟨.int .u32, 1, 4, [.int .u32 0]⟩
theorem lay46_ok : LayOk1 Try.prog 46 lay46 := ⟨by kernel_rfl, by kernel_rfl⟩
def lay50 : Lay := ⟨.ptr 5, 1, 8, [.pointer none]⟩
theorem lay50_ok : LayOk1 Try.prog 50 lay50 := ⟨by kernel_rfl, by kernel_rfl⟩

def layL : List (Nat × Lay) := [(1, lay1), (2, lay2), (3, lay3), (4, lay4), (5, lay5), (9, lay9), (12, lay12), (21, lay21), (22, lay22), (23, lay23), (24, lay24), (25, lay25), (27, lay27), (28, lay28), (29, lay29), (30, lay30), (31, lay31), (32, lay32), (34, lay34), (35, lay35), (36, lay36), (37, lay37), (38, lay38), (39, lay39), (45, lay45), (46, lay46), (50, lay50)]
def lk : List (Nat × Lay) → Nat → Option Lay
  | [], _ => none
  | (k, v) :: l, t => bif Nat.beq t k then some v else lk l t
def lay : Lays := fun t => lk layL t
def AllL (p : Nat → Lay → Prop) : List (Nat × Lay) → Prop
  | [] => True
  | (k, v) :: l => p k v ∧ AllL p l
theorem lk_all {p : Nat → Lay → Prop} : ∀ (l : List (Nat × Lay)), AllL p l → ∀ t x, lk l t = some x → p t x
  | [], _, t, x, h => by simp [lk] at h
  | (k, v) :: l, ha, t, x, h => by
    simp only [lk] at h
    cases hb : Nat.beq t k with
    | true => rw [hb] at h; simp at h; subst h; rw [Nat.eq_of_beq_eq_true hb]; exact ha.1
    | false => rw [hb] at h; exact lk_all l ha.2 t x h
theorem layL_ok : AllL (LayOk1 Try.prog) layL := ⟨lay1_ok, lay2_ok, lay3_ok, lay4_ok, lay5_ok, lay9_ok, lay12_ok, lay21_ok, lay22_ok, lay23_ok, lay24_ok, lay25_ok, lay27_ok, lay28_ok, lay29_ok, lay30_ok, lay31_ok, lay32_ok, lay34_ok, lay35_ok, lay36_ok, lay37_ok, lay38_ok, lay39_ok, lay45_ok, lay46_ok, lay50_ok, trivial⟩
theorem lay9_eq : EqOk Try.prog 9 := ⟨by kernel_rfl, by kernel_rfl, names_ok (by kernel_rfl)⟩
theorem lay22_eq : EqOk Try.prog 22 := ⟨by kernel_rfl, by kernel_rfl, names_ok (by kernel_rfl)⟩
theorem lay23_eq : EqOk Try.prog 23 := ⟨by kernel_rfl, by kernel_rfl, names_ok (by kernel_rfl)⟩
theorem lay36_eq : EqOk Try.prog 36 := ⟨by kernel_rfl, by kernel_rfl, names_ok (by kernel_rfl)⟩
theorem lay37_eq : EqOk Try.prog 37 := ⟨by kernel_rfl, by kernel_rfl, names_ok (by kernel_rfl)⟩
theorem layL_eq : AllL (fun t L => isSt L.kind = true → EqOk Try.prog t) layL := ⟨fun h => Bool.noConfusion h, fun h => Bool.noConfusion h, fun h => Bool.noConfusion h, fun h => Bool.noConfusion h, fun h => Bool.noConfusion h, fun _ => lay9_eq, fun h => Bool.noConfusion h, fun h => Bool.noConfusion h, fun _ => lay22_eq, fun _ => lay23_eq, fun h => Bool.noConfusion h, fun h => Bool.noConfusion h, fun h => Bool.noConfusion h, fun h => Bool.noConfusion h, fun h => Bool.noConfusion h, fun h => Bool.noConfusion h, fun h => Bool.noConfusion h, fun h => Bool.noConfusion h, fun h => Bool.noConfusion h, fun h => Bool.noConfusion h, fun _ => lay36_eq, fun _ => lay37_eq, fun h => Bool.noConfusion h, fun h => Bool.noConfusion h, fun h => Bool.noConfusion h, fun h => Bool.noConfusion h, fun h => Bool.noConfusion h, trivial⟩
theorem layL_zform : (layL.all fun p => (((Try.prog.info? p.1).bind fun i => i.zero.map aggOf) == some (isAgg p.2.kind))) = true := by kernel_rfl
theorem layL_zero : (layL.all fun p => p.2.zero.all (·.oneCell')) = true := by kernel_rfl
theorem layL_size : (layL.all fun p => Nat.beq p.2.zero.length p.2.size) = true := by kernel_rfl
def fieldsOk : Lay → Bool
  | ⟨.st fs, _, _, _⟩ => fieldsIn lay fs
  | _ => true
theorem layL_fields : (layL.all fun p => fieldsOk p.2) = true := by kernel_rfl
theorem lk_mem : ∀ (l : List (Nat × Lay)) (t : Nat) (x : Lay), lk l t = some x → (t, x) ∈ l
  | [], t, x, h => by simp [lk] at h
  | (k, v) :: l, t, x, h => by
    simp only [lk] at h
    cases hb : Nat.beq t k with
    | true => rw [hb] at h; simp at h; subst h; rw [Nat.eq_of_beq_eq_true hb]; exact List.mem_cons_self
    | false => rw [hb] at h; exact List.mem_cons_of_mem _ (lk_mem l t x h)
theorem good : Good Try.prog lay where
  lay := lk_all layL layL_ok
  zero t x h := by
    have := List.all_eq_true.1 layL_zero _ (lk_mem layL t x h)
    exact this
  size t x h := by
    have := List.all_eq_true.1 layL_size _ (lk_mem layL t x h)
    exact Nat.eq_of_beq_eq_true this
  fields t fs s b z h := by
    have := List.all_eq_true.1 layL_fields _ (lk_mem layL t _ h)
    exact this
  more :=
    { eqs := fun t fs s b z h => lk_all layL layL_eq t _ h rfl
      size := fun t x h => Nat.eq_of_beq_eq_true (List.all_eq_true.1 layL_size _ (lk_mem layL t x h))
      zform := fun t x h => by
        have := List.all_eq_true.1 layL_zform _ (lk_mem layL t x h)
        exact eq_of_beq this }
#print axioms good
end Go.Proofs.Ytlogldffadeadaa.Abs

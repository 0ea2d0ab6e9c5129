/-
  THE FORMS OF THE TYPES OF ARGUMENTS, and that readings have them. Printed by this session's genrd.py.
-/
import Derived.Test.YtndfcbcmeeemfaaLay
import Derived.Test.YtndfcbcmeeemfaaX7
namespace Go.Proofs.Ytndfcbcmeeemfaa.Abs
open Go

/- int -/
def fm3 : Nat → Fm := fun _ => .int .i64
theorem rd3 : Reads Try.prog 3 1 fm3 := reads_int Try.underlying3
/- uint64 -/
def fm22 : Nat → Fm := fun _ => .int .u64
theorem rd22 : Reads Try.prog 22 1 fm22 := reads_int Try.underlying22
/- []uint64 -/
def fm23 : Nat → Fm := fun _ => .sl 1 fm22
theorem rd23 : Reads Try.prog 23 1 fm23 := reads_slice Try.underlying23 rd22 (by omega) (by kernel_rfl)
/- api.Step -/
def fm39 : Nat → Fm := fun j => [fm3 0, fm3 0, fm22 0, fm22 0].getD j .bool
theorem rd39 : Reads Try.prog 39 4 fm39 := reads_struct Try.underlying39 (by kernel_rfl) fun j hj => by
  match j, hj with
  | 0, _ => exact ⟨0, _, 1, fm3, rfl, by decide, by decide, rd3, by kernel_rfl, rfl⟩
  | 1, _ => exact ⟨1, _, 1, fm3, rfl, by decide, by decide, rd3, by kernel_rfl, rfl⟩
  | 2, _ => exact ⟨2, _, 1, fm22, rfl, by decide, by decide, rd22, by kernel_rfl, rfl⟩
  | 3, _ => exact ⟨3, _, 1, fm22, rfl, by decide, by decide, rd22, by kernel_rfl, rfl⟩
/- []api.Step -/
def fm36 : Nat → Fm := fun _ => .sl 4 fm39
theorem rd36 : Reads Try.prog 36 1 fm36 := reads_slice Try.underlying36 rd39 (by omega) (by kernel_rfl)
/- bool -/
def fm4 : Nat → Fm := fun _ => .bool
theorem rd4 : Reads Try.prog 4 1 fm4 := reads_bool Try.underlying4
/- api.Instr -/
def fm67 : Nat → Fm := fun j => [fm3 0, fm3 0, fm3 0, fm22 0, fm3 0].getD j .bool
theorem rd67 : Reads Try.prog 67 5 fm67 := reads_struct Try.underlying67 (by kernel_rfl) fun j hj => by
  match j, hj with
  | 0, _ => exact ⟨0, _, 1, fm3, rfl, by decide, by decide, rd3, by kernel_rfl, rfl⟩
  | 1, _ => exact ⟨1, _, 1, fm3, rfl, by decide, by decide, rd3, by kernel_rfl, rfl⟩
  | 2, _ => exact ⟨2, _, 1, fm3, rfl, by decide, by decide, rd3, by kernel_rfl, rfl⟩
  | 3, _ => exact ⟨3, _, 1, fm22, rfl, by decide, by decide, rd22, by kernel_rfl, rfl⟩
  | 4, _ => exact ⟨4, _, 1, fm3, rfl, by decide, by decide, rd3, by kernel_rfl, rfl⟩
/- []api.Instr -/
def fm51 : Nat → Fm := fun _ => .sl 5 fm67
theorem rd51 : Reads Try.prog 51 1 fm51 := reads_slice Try.underlying51 rd67 (by omega) (by kernel_rfl)
/- [4]uint64 -/
def fm52 : Nat → Fm := fun j => fm22 (j % 1)
theorem rd52 : Reads Try.prog 52 4 fm52 := reads_array (n := 4) (k := 1) Try.underlying52 rd22 (by omega) (by kernel_rfl) (by kernel_rfl)
/- api.Proc -/
def fm54 : Nat → Fm := fun j => [fm51 0, fm3 0, fm52 0, fm52 1, fm52 2, fm52 3, fm4 0, fm3 0].getD j .bool
theorem rd54 : Reads Try.prog 54 8 fm54 := reads_struct Try.underlying54 (by kernel_rfl) fun j hj => by
  match j, hj with
  | 0, _ => exact ⟨0, _, 1, fm51, rfl, by decide, by decide, rd51, by kernel_rfl, rfl⟩
  | 1, _ => exact ⟨1, _, 1, fm3, rfl, by decide, by decide, rd3, by kernel_rfl, rfl⟩
  | 2, _ => exact ⟨2, _, 4, fm52, rfl, by decide, by decide, rd52, by kernel_rfl, rfl⟩
  | 3, _ => exact ⟨2, _, 4, fm52, rfl, by decide, by decide, rd52, by kernel_rfl, rfl⟩
  | 4, _ => exact ⟨2, _, 4, fm52, rfl, by decide, by decide, rd52, by kernel_rfl, rfl⟩
  | 5, _ => exact ⟨2, _, 4, fm52, rfl, by decide, by decide, rd52, by kernel_rfl, rfl⟩
  | 6, _ => exact ⟨3, _, 1, fm4, rfl, by decide, by decide, rd4, by kernel_rfl, rfl⟩
  | 7, _ => exact ⟨4, _, 1, fm3, rfl, by decide, by decide, rd3, by kernel_rfl, rfl⟩
/- []api.Proc -/
def fm49 : Nat → Fm := fun _ => .sl 8 fm54
theorem rd49 : Reads Try.prog 49 1 fm49 := reads_slice Try.underlying49 rd54 (by omega) (by kernel_rfl)
/- []int -/
def fm50 : Nat → Fm := fun _ => .sl 1 fm3
theorem rd50 : Reads Try.prog 50 1 fm50 := reads_slice Try.underlying50 rd3 (by omega) (by kernel_rfl)
end Go.Proofs.Ytndfcbcmeeemfaa.Abs

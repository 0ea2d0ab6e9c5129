/-
  THE FORMS OF THE TYPES OF ARGUMENTS, and that readings have them. Printed by this session's genrd.py.
-/
import Derived.Test.YtadgjhbhghhbgaaLay
import Derived.Test.YtadgjhbhghhbgaaX7
namespace Go.Proofs.Ytadgjhbhghhbgaa.Abs
open Go

/- int -/
def fm3 : Nat → Fm := fun _ => .int .i64
theorem rd3 : Reads Try.prog 3 1 fm3 := reads_int Try.underlying3
/- []int -/
def fm22 : Nat → Fm := fun _ => .sl 1 fm3
theorem rd22 : Reads Try.prog 22 1 fm22 := reads_slice Try.underlying22 rd3 (by omega) (by kernel_rfl)
/- bool -/
def fm4 : Nat → Fm := fun _ => .bool
theorem rd4 : Reads Try.prog 4 1 fm4 := reads_bool Try.underlying4
/- api.Ref -/
def fm37 : Nat → Fm := fun _ => .int .u64
theorem rd37 : Reads Try.prog 37 1 fm37 := reads_int Try.underlying37
/- int64 -/
def fm2 : Nat → Fm := fun _ => .int .i64
theorem rd2 : Reads Try.prog 2 1 fm2 := reads_int Try.underlying2
/- api.Item -/
def fm54 : Nat → Fm := fun j => [fm2 0, fm2 0].getD j .bool
theorem rd54 : Reads Try.prog 54 2 fm54 := reads_struct Try.underlying54 (by kernel_rfl) fun j hj => by
  match j, hj with
  | 0, _ => exact ⟨0, _, 1, fm2, rfl, by decide, by decide, rd2, by kernel_rfl, rfl⟩
  | 1, _ => exact ⟨1, _, 1, fm2, rfl, by decide, by decide, rd2, by kernel_rfl, rfl⟩
/- []api.Item -/
def fm47 : Nat → Fm := fun _ => .sl 2 fm54
theorem rd47 : Reads Try.prog 47 1 fm47 := reads_slice Try.underlying47 rd54 (by omega) (by kernel_rfl)
/- [9]api.Ref -/
def fm89 : Nat → Fm := fun j => fm37 (j % 1)
theorem rd89 : Reads Try.prog 89 9 fm89 := reads_array (n := 9) (k := 1) Try.underlying89 rd37 (by omega) (by kernel_rfl) (by kernel_rfl)
/- api.Node -/
def fm91 : Nat → Fm := fun j => [fm3 0, fm3 0, fm2 0, fm2 0, fm2 0, fm89 0, fm89 1, fm89 2, fm89 3, fm89 4, fm89 5, fm89 6, fm89 7, fm89 8, fm3 0, fm3 0].getD j .bool
theorem rd91 : Reads Try.prog 91 16 fm91 := reads_struct Try.underlying91 (by kernel_rfl) fun j hj => by
  match j, hj with
  | 0, _ => exact ⟨0, _, 1, fm3, rfl, by decide, by decide, rd3, by kernel_rfl, rfl⟩
  | 1, _ => exact ⟨1, _, 1, fm3, rfl, by decide, by decide, rd3, by kernel_rfl, rfl⟩
  | 2, _ => exact ⟨2, _, 1, fm2, rfl, by decide, by decide, rd2, by kernel_rfl, rfl⟩
  | 3, _ => exact ⟨3, _, 1, fm2, rfl, by decide, by decide, rd2, by kernel_rfl, rfl⟩
  | 4, _ => exact ⟨4, _, 1, fm2, rfl, by decide, by decide, rd2, by kernel_rfl, rfl⟩
  | 5, _ => exact ⟨5, _, 9, fm89, rfl, by decide, by decide, rd89, by kernel_rfl, rfl⟩
  | 6, _ => exact ⟨5, _, 9, fm89, rfl, by decide, by decide, rd89, by kernel_rfl, rfl⟩
  | 7, _ => exact ⟨5, _, 9, fm89, rfl, by decide, by decide, rd89, by kernel_rfl, rfl⟩
  | 8, _ => exact ⟨5, _, 9, fm89, rfl, by decide, by decide, rd89, by kernel_rfl, rfl⟩
  | 9, _ => exact ⟨5, _, 9, fm89, rfl, by decide, by decide, rd89, by kernel_rfl, rfl⟩
  | 10, _ => exact ⟨5, _, 9, fm89, rfl, by decide, by decide, rd89, by kernel_rfl, rfl⟩
  | 11, _ => exact ⟨5, _, 9, fm89, rfl, by decide, by decide, rd89, by kernel_rfl, rfl⟩
  | 12, _ => exact ⟨5, _, 9, fm89, rfl, by decide, by decide, rd89, by kernel_rfl, rfl⟩
  | 13, _ => exact ⟨5, _, 9, fm89, rfl, by decide, by decide, rd89, by kernel_rfl, rfl⟩
  | 14, _ => exact ⟨6, _, 1, fm3, rfl, by decide, by decide, rd3, by kernel_rfl, rfl⟩
  | 15, _ => exact ⟨7, _, 1, fm3, rfl, by decide, by decide, rd3, by kernel_rfl, rfl⟩
  | n + 16, h => exact absurd h (by omega)
/- []api.Node -/
def fm48 : Nat → Fm := fun _ => .sl 16 fm91
theorem rd48 : Reads Try.prog 48 1 fm48 := reads_slice Try.underlying48 rd91 (by omega) (by kernel_rfl)
/- api.Arena -/
def fm50 : Nat → Fm := fun j => [fm48 0, fm22 0].getD j .bool
theorem rd50 : Reads Try.prog 50 2 fm50 := reads_struct Try.underlying50 (by kernel_rfl) fun j hj => by
  match j, hj with
  | 0, _ => exact ⟨0, _, 1, fm48, rfl, by decide, by decide, rd48, by kernel_rfl, rfl⟩
  | 1, _ => exact ⟨1, _, 1, fm22, rfl, by decide, by decide, rd22, by kernel_rfl, rfl⟩
end Go.Proofs.Ytadgjhbhghhbgaa.Abs

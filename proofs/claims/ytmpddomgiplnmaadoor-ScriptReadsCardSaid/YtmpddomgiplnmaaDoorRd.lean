/-
  THE FORMS OF THE TYPES OF ARGUMENTS, and that readings have them. Printed by this session's genrd.py.
-/
import Derived.Test.YtmpddomgiplnmaaDoorLay
import Derived.Test.YtmpddomgiplnmaaDoorX7
namespace Go.Proofs.YtmpddomgiplnmaaDoor.Abs
open Go

/- int -/
def fm3 : Nat → Fm := fun _ => .int .i64
theorem rd3 : Reads Tryd.prog 3 1 fm3 := reads_int Tryd.underlying3
/- int64 -/
def fm2 : Nat → Fm := fun _ => .int .i64
theorem rd2 : Reads Tryd.prog 2 1 fm2 := reads_int Tryd.underlying2
/- []int64 -/
def fm38 : Nat → Fm := fun _ => .sl 1 fm2
theorem rd38 : Reads Tryd.prog 38 1 fm38 := reads_slice Tryd.underlying38 rd2 (by omega) (by kernel_rfl)
/- api.Deed -/
def fm40 : Nat → Fm := fun j => [fm3 0, fm38 0].getD j .bool
theorem rd40 : Reads Tryd.prog 40 2 fm40 := reads_struct Tryd.underlying40 (by kernel_rfl) fun j hj => by
  match j, hj with
  | 0, _ => exact ⟨0, _, 1, fm3, rfl, by decide, by decide, rd3, by kernel_rfl, rfl⟩
  | 1, _ => exact ⟨1, _, 1, fm38, rfl, by decide, by decide, rd38, by kernel_rfl, rfl⟩
/- []api.Deed -/
def fm22 : Nat → Fm := fun _ => .sl 2 fm40
theorem rd22 : Reads Tryd.prog 22 1 fm22 := reads_slice Tryd.underlying22 rd40 (by omega) (by kernel_rfl)
/- api.Plan -/
def fm24 : Nat → Fm := fun j => [fm3 0, fm3 0, fm22 0].getD j .bool
theorem rd24 : Reads Tryd.prog 24 3 fm24 := reads_struct Tryd.underlying24 (by kernel_rfl) fun j hj => by
  match j, hj with
  | 0, _ => exact ⟨0, _, 1, fm3, rfl, by decide, by decide, rd3, by kernel_rfl, rfl⟩
  | 1, _ => exact ⟨1, _, 1, fm3, rfl, by decide, by decide, rd3, by kernel_rfl, rfl⟩
  | 2, _ => exact ⟨2, _, 1, fm22, rfl, by decide, by decide, rd22, by kernel_rfl, rfl⟩
/- string -/
def fm9 : Nat → Fm := fun _ => .str
theorem rd9 : Reads Tryd.prog 9 1 fm9 := reads_str Tryd.underlying9
end Go.Proofs.YtmpddomgiplnmaaDoor.Abs

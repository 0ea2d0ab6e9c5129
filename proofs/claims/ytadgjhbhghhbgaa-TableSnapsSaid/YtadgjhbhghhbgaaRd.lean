/-
  THE FORMS OF THE TYPES OF ARGUMENTS, and that readings have them. Printed by this session's genrd.py.
-/
import Derived.Test.YtadgjhbhghhbgaaLay
import Derived.Test.YtadgjhbhghhbgaaX7
namespace Go.Proofs.Ytadgjhbhghhbgaa.Abs
open Go

/- int -/
def fm3 : Nat → Fm := fun _ => .int .i64
theorem rd3 : Reads Try.prog 3 1 fm3 := reads_int Try.underlying3
/- []int -/
def fm22 : Nat → Fm := fun _ => .sl 1 fm3
theorem rd22 : Reads Try.prog 22 1 fm22 := reads_slice Try.underlying22 rd3 (by omega) (by kernel_rfl)
/- bool -/
def fm4 : Nat → Fm := fun _ => .bool
theorem rd4 : Reads Try.prog 4 1 fm4 := reads_bool Try.underlying4
/- api.Ref -/
def fm37 : Nat → Fm := fun _ => .int .u64
theorem rd37 : Reads Try.prog 37 1 fm37 := reads_int Try.underlying37
end Go.Proofs.Ytadgjhbhghhbgaa.Abs

/-
  THE LISTED TABLE OF TENS, LAID: what the evaluator asks of the world.
-/
import Derived.Test.YtmpddomgiplnmaaDoorS10
import Derived.Test.YtmpddomgiplnmaaDoorX7
import Derived.Test.YtmpddomgiplnmaaDoorRows
import Derived.MakeChecks
import Derived.LaidMore
import Derived.Lib.LaidU8
namespace Go.Proofs.YtmpddomgiplnmaaDoor.Abs
open Go Go.Lib Go.RowKit

def tens : List Int := [1, 10, 100, 1000, 10000, 100000, 1000000, 10000000, 100000000, 1000000000, 10000000000, 100000000000, 1000000000000, 10000000000000, 100000000000000, 1000000000000000, 10000000000000000, 100000000000000000, 1000000000000000000, 10000000000000000000]
theorem gOk_laid {W : World} {laid : List (String × DataW Unit)} (hp : (laid.all fun x => x.2.handleName?.isNone) = true) (h : laidMetH Tryd.prog laid W) (hm : ("internal/strconv.uint64pow10", Rows.laid_internal_strconv_uint64pow10) ∈ laid) : gOk W noO := by
  rw [MakeChecks.laidMetH_plain _ _ _ hp] at h
  obtain ⟨g, t, cs, fuel, p, hg, ht, hv, hd⟩ := laidMet.reads h hm
  have hg1 : Tryd.prog.globalNamed "internal/strconv.uint64pow10" = some 1 := by kernel_rfl
  have ht1 : (Tryd.prog.globals[1]?).map (·.type) = some 93 := by kernel_rfl
  obtain rfl := Option.some.inj (hg1.symm.trans hg)
  obtain rfl := Option.some.inj (ht1.symm.trans ht)
  have e : cs.toList = tens.map fun z => Value.int .u64 z := cells_of_tab (zs := tens) Tryd.underlying93 Tryd.underlying83 (by kernel_rfl) (by kernel_rfl) hd
  have hh : ∃ ty fz, W.heap[1]? = some (.cells cs ty fz) := by
    unfold World.var? at hv
    rw [hg1, Option.bind_some] at hv
    split at hv
    · rename_i cs' ty fz hb
      cases hv
      exact ⟨ty, fz, hb⟩
    · cases hv
  obtain ⟨ty, fz, hh⟩ := hh
  intro x hx
  obtain rfl : x = (1, tens.map fun z => Value.int .u64 z) := by simpa [gTabs, tens] using hx
  refine ⟨(Array.getElem?_eq_some_iff.1 hh).1, id, ty, fz, ?_⟩
  rw [hh, ← e]
end Go.Proofs.YtmpddomgiplnmaaDoor.Abs

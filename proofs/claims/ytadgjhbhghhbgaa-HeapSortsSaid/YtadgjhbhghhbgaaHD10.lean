/-
  THE STATEMENT HeapSorts: its contract, lifted to its row.
-/
import Derived.Test.YtadgjhbhghhbgaaRows
import Derived.Test.YtadgjhbhghhbgaaHp20
import Derived.Test.YtadgjhbhghhbgaaHD0
namespace Go.Proofs.Ytadgjhbhghhbgaa.Abs
open Go Go.ChangeShapes Go.WideShapes Go.ChangeAt Go.RowKit

set_option maxRecDepth 100000 in
theorem heapSorts_lifted (os : Os) (started : os.Started) (H : Type) (enc : TypeId × Value → H) :
    ReturnsInHanded {} Try.checked os 5 .any (Rows.heapSortsSpec.pre6 enc Try.prog Try.f5 Rows.heapSortsRow.domain false) (Rows.heapSortsSpec.post enc Try.prog Try.f5 false true false false) := by
  refine returnsInHanded_of_change (C := Try.checked) own started (by kernel_rfl) Try.func5
    (ChangeSpec.witness6 (enc := enc) (C := Try.checked) false ⟨#[], #[.slice none 0 0], []⟩ 8 (by kernel_rfl) (by kernel_rfl) (by kernel_rfl) (by kernel_rfl)) ?_
  intro W base args ds gs before hval hW _ _
  have hval : ∀ (j : Nat) t v, Try.f5.params[j]? = some t → args[j]? = some v → Value.okWide Try.prog W .any base t v := hval
  have hW' := hW
  obtain ⟨p, q, hA0, hV, rfl, hfz, hnd⟩ := hW
  have hA : DataW.TrodAll enc Try.prog W 0 (fun _ => true) true Try.f5.params.toList args.toList ds p := hA0
  rw [Try.params5] at hA hval
  obtain ⟨v0, vs0, d0, ds0, p0, q0, hargs, rfl, rfl, h0, r0⟩ := trodAll_cons hA
  obtain ⟨rfl, rfl, rfl⟩ := trodAll_nil r0
  obtain rfl : args = #[v0] := by cases args; simp_all
  obtain ⟨rfl, rfl⟩ := trodVars_none hV
  obtain ⟨l, hl⟩ := open_items (hval 0 47 v0 rfl rfl) h0
  refine (pcall_law (lawSorts 202 (by decide) l) (TRel.cons hl TRel.nil)).mono fun e W' ⟨he, hext⟩ => ?_
  exact ⟨_, he, law_post (s := Rows.heapSortsSpec) laidOut (by rw [Try.params5]; decide +kernel) rfl rfl Try.underlying4 hW' rfl rfl rfl hext⟩
end Go.Proofs.Ytadgjhbhghhbgaa.Abs

namespace Go.Proofs.Ytadgjhbhghhbgaa
open Go
theorem heapSorts_holds : Rows.HeapSortsSaid :=
  OpenClaim.holds_of_wide 5 Try.f5 rfl rfl rfl rfl rfl rfl rfl ⟨rfl, rfl, rfl, rfl, rfl⟩ rfl rfl rfl rfl rfl (by kernel_rfl) Try.func5 (by kernel_rfl)
    (of_decide_eq_true (by kernel_rfl)) (by unfold Func.isWrapper; first | (rw [if_pos (by decide +kernel)]; kernel_rfl) | (rw [if_neg (by decide +kernel)]; exact ⟨rfl, rfl⟩))
    (fun os started H enc _ => Abs.heapSorts_lifted os started H enc)
#print axioms heapSorts_holds
end Go.Proofs.Ytadgjhbhghhbgaa

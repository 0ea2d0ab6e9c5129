/-
  THE STATEMENT HeapOlder: its contract, lifted to its row.
-/
import Derived.Test.YtadgjhbhghhbgaaRows
import Derived.Test.YtadgjhbhghhbgaaHq14
import Derived.Test.YtadgjhbhghhbgaaHD0
namespace Go.Proofs.Ytadgjhbhghhbgaa.Abs
open Go Go.ChangeShapes Go.WideShapes Go.ChangeAt Go.RowKit

set_option maxRecDepth 100000 in
theorem heapOlder_lifted (os : Os) (started : os.Started) (H : Type) (enc : TypeId × Value → H) :
    ReturnsInHanded {} Try.checked os 9 .any (Rows.heapOlderSpec.pre6 enc Try.prog Try.f9 Rows.heapOlderRow.domain false) (Rows.heapOlderSpec.post enc Try.prog Try.f9 false true false false) := by
  refine returnsInHanded_of_change (C := Try.checked) own started (by kernel_rfl) Try.func9
    (ChangeSpec.witness6 (enc := enc) (C := Try.checked) false ⟨#[], #[.slice none 0 0, .agg #[.int .i64 0, .int .i64 0]], []⟩ 8 (by kernel_rfl) (by kernel_rfl) (by kernel_rfl) (by kernel_rfl)) ?_
  intro W base args ds gs before hval hW _ _
  have hval : ∀ (j : Nat) t v, Try.f9.params[j]? = some t → args[j]? = some v → Value.okWide Try.prog W .any base t v := hval
  have hW' := hW
  obtain ⟨p, q, hA0, hV, rfl, hfz, hnd⟩ := hW
  have hA : DataW.TrodAll enc Try.prog W 0 (fun _ => true) true Try.f9.params.toList args.toList ds p := hA0
  rw [Try.params9] at hA hval
  obtain ⟨v0, vs0, d0, ds0, p0, q0, hargs, rfl, rfl, h0, r0⟩ := trodAll_cons hA
  obtain ⟨v1, vs1, d1, ds1, p1, q1, rfl, rfl, rfl, h1, r1⟩ := trodAll_cons r0
  obtain ⟨rfl, rfl, rfl⟩ := trodAll_nil r1
  obtain rfl : args = #[v0, v1] := by cases args; simp_all
  obtain ⟨rfl, rfl⟩ := trodVars_none hV
  obtain ⟨l, hl⟩ := open_items (hval 0 47 v0 rfl rfl) h0
  obtain ⟨x, hx⟩ := open_item (hval 1 54 v1 rfl rfl) h1
  refine (pcall_law (older7 l x) (TRel.cons hl (TRel.cons hx TRel.nil))).mono fun e W' ⟨he, hext⟩ => ?_
  exact ⟨_, he, law_post (s := Rows.heapOlderSpec) laidOut (by rw [Try.params9]; decide +kernel) rfl rfl Try.underlying4 hW' rfl rfl rfl hext⟩
end Go.Proofs.Ytadgjhbhghhbgaa.Abs

namespace Go.Proofs.Ytadgjhbhghhbgaa
open Go
theorem heapOlder_holds : Rows.HeapOlderSaid :=
  OpenClaim.holds_of_wide 9 Try.f9 rfl rfl rfl rfl rfl rfl rfl ⟨rfl, rfl, rfl, rfl, rfl⟩ rfl rfl rfl rfl rfl (by kernel_rfl) Try.func9 (by kernel_rfl)
    (of_decide_eq_true (by kernel_rfl)) (by unfold Func.isWrapper; first | (rw [if_pos (by decide +kernel)]; kernel_rfl) | (rw [if_neg (by decide +kernel)]; exact ⟨rfl, rfl⟩))
    (fun os started H enc _ => Abs.heapOlder_lifted os started H enc)
#print axioms heapOlder_holds
end Go.Proofs.Ytadgjhbhghhbgaa

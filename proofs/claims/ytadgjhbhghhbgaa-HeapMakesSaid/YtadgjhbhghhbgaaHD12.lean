/-
  THE STATEMENT HeapMakes: its contract, lifted to its row.
-/
import Derived.Test.YtadgjhbhghhbgaaRows
import Derived.Test.YtadgjhbhghhbgaaHw
import Derived.Test.YtadgjhbhghhbgaaHDA
namespace Go.Proofs.Ytadgjhbhghhbgaa.Abs
open Go Go.ChangeShapes Go.WideShapes Go.ChangeAt Go.RowKit

set_option maxRecDepth 100000 in
theorem heapMakes_lifted (os : Os) (started : os.Started) (H : Type) (enc : TypeId × Value → H) :
    ReturnsInHanded {} Try.checked os 6 .any (Rows.heapMakesSpec.pre6 enc Try.prog Try.f6 Rows.heapMakesRow.domain false) (Rows.heapMakesSpec.post enc Try.prog Try.f6 false true false false) := by
  refine returnsInHanded_of_change (C := Try.checked) own started (by kernel_rfl) Try.func6
    (ChangeSpec.witness6 (enc := enc) (C := Try.checked) false ⟨#[], #[.agg #[.slice none 0 0, .slice none 0 0], .int .u64 0, .int .u64 0, .agg #[.int .i64 0, .int .i64 0]], []⟩ 8 (by kernel_rfl) (by kernel_rfl) (by kernel_rfl) (by kernel_rfl)) ?_
  intro W base args ds gs before hval hW _ _
  have hval : ∀ (j : Nat) t v, Try.f6.params[j]? = some t → args[j]? = some v → Value.okWide Try.prog W .any base t v := hval
  have hW' := hW
  obtain ⟨p, q, hA0, hV, rfl, hfz, hnd⟩ := hW
  have hA : DataW.TrodAll enc Try.prog W 0 (fun _ => true) true Try.f6.params.toList args.toList ds p := hA0
  rw [Try.params6] at hA hval
  obtain ⟨v0, vs0, d0, ds0, p0, q0, hargs, rfl, rfl, h0, r0⟩ := trodAll_cons hA
  obtain ⟨v1, vs1, d1, ds1, p1, q1, rfl, rfl, rfl, h1, r1⟩ := trodAll_cons r0
  obtain ⟨v2, vs2, d2, ds2, p2, q2, rfl, rfl, rfl, h2, r2⟩ := trodAll_cons r1
  obtain ⟨v3, vs3, d3, ds3, p3, q3, rfl, rfl, rfl, h3, r3⟩ := trodAll_cons r2
  obtain ⟨rfl, rfl, rfl⟩ := trodAll_nil r3
  obtain rfl : args = #[v0, v1, v2, v3] := by cases args; simp_all
  obtain ⟨rfl, rfl⟩ := trodVars_none hV
  obtain ⟨a, ga, ha⟩ := open_arena (hval 0 50 v0 rfl rfl) h0
  obtain ⟨r, gr, hr⟩ := open_ref (hval 1 37 v1 rfl rfl) h1
  obtain ⟨s, gs, hs⟩ := open_ref (hval 2 37 v2 rfl rfl) h2
  obtain ⟨x, hx⟩ := open_item (hval 3 54 v3 rfl rfl) h3
  refine (pcall_law (lawMakes 202 (by decide) a ga r s gr gs x) (TRel.cons ha (TRel.cons hr (TRel.cons hs (TRel.cons hx TRel.nil))))).mono fun e W' ⟨he, hext⟩ => ?_
  exact ⟨_, he, law_post (s := Rows.heapMakesSpec) laidOut (by rw [Try.params6]; decide +kernel) rfl rfl Try.underlying4 hW' rfl rfl rfl hext⟩
end Go.Proofs.Ytadgjhbhghhbgaa.Abs

namespace Go.Proofs.Ytadgjhbhghhbgaa
open Go
theorem heapMakes_holds : Rows.HeapMakesSaid :=
  OpenClaim.holds_of_wide 6 Try.f6 rfl rfl rfl rfl rfl rfl rfl ⟨rfl, rfl, rfl, rfl, rfl⟩ rfl rfl rfl rfl rfl (by kernel_rfl) Try.func6 (by kernel_rfl)
    (of_decide_eq_true (by kernel_rfl)) (by unfold Func.isWrapper; first | (rw [if_pos (by decide +kernel)]; kernel_rfl) | (rw [if_neg (by decide +kernel)]; exact ⟨rfl, rfl⟩))
    (fun os started H enc _ => Abs.heapMakes_lifted os started H enc)
#print axioms heapMakes_holds
end Go.Proofs.Ytadgjhbhghhbgaa

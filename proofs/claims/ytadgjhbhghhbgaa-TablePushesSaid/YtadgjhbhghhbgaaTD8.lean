/-
  THE STATEMENT TablePushes: its contract, lifted to its row.
-/
import Derived.Test.YtadgjhbhghhbgaaRows
import Derived.Test.YtadgjhbhghhbgaaT8
import Derived.Test.YtadgjhbhghhbgaaTD0
namespace Go.Proofs.Ytadgjhbhghhbgaa.Abs
open Go Go.ChangeShapes Go.WideShapes Go.ChangeAt Go.RowKit

set_option maxRecDepth 100000 in
theorem tablePushes_lifted (os : Os) (started : os.Started) (H : Type) (enc : TypeId × Value → H) :
    ReturnsInHanded {} Try.checked os 4 .any (Rows.tablePushesSpec.pre6 enc Try.prog Try.f4 Rows.tablePushesRow.domain false) (Rows.tablePushesSpec.post enc Try.prog Try.f4 false true false false) := by
  refine returnsInHanded_of_change (C := Try.checked) own started (by kernel_rfl) Try.func4
    (ChangeSpec.witness6 (enc := enc) (C := Try.checked) false ⟨#[], #[.int .i64 0, .int .i64 0, .int .i64 0], []⟩ 8 (by kernel_rfl) (by kernel_rfl) (by kernel_rfl) (by kernel_rfl)) ?_
  intro W base args ds gs before hval hW _ _
  have hval : ∀ (j : Nat) t v, Try.f4.params[j]? = some t → args[j]? = some v → Value.okWide Try.prog W .any base t v := hval
  have hW' := hW
  obtain ⟨p, q, hA0, hV, rfl, hfz, hnd⟩ := hW
  have hA : DataW.TrodAll enc Try.prog W 0 (fun _ => true) true Try.f4.params.toList args.toList ds p := hA0
  rw [Try.params4] at hA hval
  obtain ⟨v0, vs0, d0, ds0, p0, q0, hargs, rfl, rfl, h0, r0⟩ := trodAll_cons hA
  obtain ⟨v1, vs1, d1, ds1, p1, q1, rfl, rfl, rfl, h1, r1⟩ := trodAll_cons r0
  obtain ⟨v2, vs2, d2, ds2, p2, q2, rfl, rfl, rfl, h2, r2⟩ := trodAll_cons r1
  obtain ⟨rfl, rfl, rfl⟩ := trodAll_nil r2
  obtain rfl : args = #[v0, v1, v2] := by cases args; simp_all
  obtain ⟨rfl, rfl⟩ := trodVars_none hV
  obtain ⟨procs, rfl, _, _, _⟩ := open_int Try.underlying3 (hval 0 3 v0 rfl rfl) h0
  obtain ⟨m, rfl, _, _, _⟩ := open_int Try.underlying3 (hval 1 3 v1 rfl rfl) h1
  obtain ⟨other, rfl, _, _, _⟩ := open_int Try.underlying3 (hval 2 3 v2 rfl rfl) h2
  refine (pcall_law (pushes4 procs m other) (TRel.cons (crel_int _ _) (TRel.cons (crel_int _ _) (TRel.cons (crel_int _ _) TRel.nil)))).mono fun e W' ⟨he, hext⟩ => ?_
  exact ⟨_, he, law_post (s := Rows.tablePushesSpec) laidOut (by rw [Try.params4]; decide +kernel) rfl rfl Try.underlying4 hW' rfl rfl rfl hext⟩
end Go.Proofs.Ytadgjhbhghhbgaa.Abs

namespace Go.Proofs.Ytadgjhbhghhbgaa
open Go
theorem tablePushes_holds : Rows.TablePushesSaid :=
  OpenClaim.holds_of_wide 4 Try.f4 rfl rfl rfl rfl rfl rfl rfl ⟨rfl, rfl, rfl, rfl, rfl⟩ rfl rfl rfl rfl rfl (by kernel_rfl) Try.func4 (by kernel_rfl)
    (of_decide_eq_true (by kernel_rfl)) (by unfold Func.isWrapper; first | (rw [if_pos (by decide +kernel)]; kernel_rfl) | (rw [if_neg (by decide +kernel)]; exact ⟨rfl, rfl⟩))
    (fun os started H enc _ => Abs.tablePushes_lifted os started H enc)
#print axioms tablePushes_holds
end Go.Proofs.Ytadgjhbhghhbgaa

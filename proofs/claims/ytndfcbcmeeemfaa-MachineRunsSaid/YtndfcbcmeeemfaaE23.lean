/-
  THE STATEMENT MachineRuns: its contract, lifted to its row.
-/
import Derived.Test.YtndfcbcmeeemfaaRows
import Derived.Test.YtndfcbcmeeemfaaM23
import Derived.Test.YtndfcbcmeeemfaaMD0
namespace Go.Proofs.Ytndfcbcmeeemfaa.Abs
open Go Go.ChangeShapes Go.WideShapes Go.ChangeAt Go.RowKit

set_option maxRecDepth 100000 in
theorem machineRuns_lifted (os : Os) (started : os.Started) (H : Type) (enc : TypeId × Value → H) :
    ReturnsInHanded {} Try.checked os 9 .any (Rows.machineRunsSpec.pre6 enc Try.prog Try.f9 Rows.machineRunsRow.domain false) (Rows.machineRunsSpec.post enc Try.prog Try.f9 false true false false) := by
  refine returnsInHanded_of_change (C := Try.checked) own started (by kernel_rfl) Try.func9
    (ChangeSpec.witness6 (enc := enc) (C := Try.checked) false ⟨#[], #[.slice none 0 0, .slice none 0 0, .slice none 0 0], []⟩ 8 (by kernel_rfl) (by kernel_rfl) (by kernel_rfl) (by kernel_rfl)) ?_
  intro W base args ds gs before hval hW _ _
  have hval : ∀ (j : Nat) t v, Try.f9.params[j]? = some t → args[j]? = some v → Value.okWide Try.prog W .any base t v := hval
  have hW' := hW
  obtain ⟨p, q, hA0, hV, rfl, hfz, hnd⟩ := hW
  have hA : DataW.TrodAll enc Try.prog W 0 (fun _ => true) true Try.f9.params.toList args.toList ds p := hA0
  rw [Try.params9] at hA hval
  obtain ⟨v0, vs0, d0, ds0, p0, q0, hargs, rfl, rfl, h0, r0⟩ := trodAll_cons hA
  obtain ⟨v1, vs1, d1, ds1, p1, q1, rfl, rfl, rfl, h1, r1⟩ := trodAll_cons r0
  obtain ⟨v2, vs2, d2, ds2, p2, q2, rfl, rfl, rfl, h2, r2⟩ := trodAll_cons r1
  obtain ⟨rfl, rfl, rfl⟩ := trodAll_nil r2
  obtain rfl : args = #[v0, v1, v2] := by cases args; simp_all
  obtain ⟨rfl, rfl⟩ := trodVars_none hV
  obtain ⟨n, m, hm⟩ := open_words (hval 0 23 v0 rfl rfl) h0
  obtain ⟨nl, l, hnl, hsl⟩ := open_procs (hval 1 49 v1 rfl rfl) h1
  obtain ⟨np, picks, hspicks⟩ := open_intS (hval 2 50 v2 rfl rfl) h2
  refine (pcall_law (runs9 n false m nl false l np false picks) (TRel.cons hm (TRel.cons hsl (TRel.cons hspicks TRel.nil)))).mono fun e W' ⟨he, hext⟩ => ?_
  exact ⟨_, he, law_post (s := Rows.machineRunsSpec) laidOut (by rw [Try.params9]; decide +kernel) rfl rfl Try.underlying4 hW' rfl rfl rfl hext⟩
end Go.Proofs.Ytndfcbcmeeemfaa.Abs

namespace Go.Proofs.Ytndfcbcmeeemfaa
open Go
theorem machineRuns_holds : Rows.MachineRunsSaid :=
  OpenClaim.holds_of_wide 9 Try.f9 rfl rfl rfl rfl rfl rfl rfl ⟨rfl, rfl, rfl, rfl, rfl⟩ rfl rfl rfl rfl rfl (by kernel_rfl) Try.func9 (by kernel_rfl)
    (of_decide_eq_true (by kernel_rfl)) (by unfold Func.isWrapper; first | (rw [if_pos (by decide +kernel)]; kernel_rfl) | (rw [if_neg (by decide +kernel)]; exact ⟨rfl, rfl⟩))
    (fun os started H enc _ => Abs.machineRuns_lifted os started H enc)
#print axioms machineRuns_holds
end Go.Proofs.Ytndfcbcmeeemfaa

/-
  THE STATEMENT ScriptLines: its contract, lifted to its row, closed as a tied card. No condition but those of the row (the listed variables start as the program's text lays them).
-/
import Derived.Test.YtmpddomgiplnmaaDoorTie
import Derived.Test.YtmpddomgiplnmaaDoorCards
import Derived.Test.YtmpddomgiplnmaaDoorS13
import Derived.Test.YtmpddomgiplnmaaDoorSD0
import Derived.Test.YtmpddomgiplnmaaDoorSDG
import Derived.Lay
import Derived.LaidMore
import Derived.MakeChecks
import Derived.SevenTiedAt
import Derived.Stop.Joined
namespace Go.Proofs.YtmpddomgiplnmaaDoor.Abs
open Go Go.ChangeShapes Go.WideShapes Go.ChangeAt Go.RowKit

set_option maxRecDepth 100000 in
theorem scriptLines_lifted (os : Os) (started : os.Started) (H : Type) (enc : TypeId × Value → H) :
    ReturnsInHanded {} Tryd.checked os 5 .any (fun w args => (Rows.scriptLinesSpec.pre enc Tryd.prog Tryd.f5 [] false w args ∧ laidMetH Tryd.prog Rows.scriptLinesRow.laid w) ∧ sizedMet enc Tryd.prog Tryd.f5 (OpenSpec.ofChange Rows.scriptLinesSpec) false w args) (Rows.scriptLinesSpec.post enc Tryd.prog Tryd.f5 false true false false) := by
  refine returnsInHanded_of_change_and (C := Tryd.checked) (X := fun w _ => laidMetH Tryd.prog Rows.scriptLinesRow.laid w) (fun _ _ _ hh h => h.of_heap hh) own started (by kernel_rfl) Tryd.func5
    (ChangeSpec.witness_shaped (enc := enc) (C := Tryd.checked) (os := os) (X := fun w _ => laidMetH Tryd.prog Rows.scriptLinesRow.laid w) false (World.laidAll Tryd.prog os Rows.scriptLinesRow.laid) #[.agg #[.int .i64 0, .int .i64 0, .slice none 0 0], .agg #[.int .i64 0, .slice none 0 0]] 8 (World.laidAll_os _ _ _)
      (World.shaped_of_ZipB (by kernel_rfl) (by kernel_rfl)) (by kernel_rfl) (by kernel_rfl) (by kernel_rfl)
      (by rw [MakeChecks.laidMetH_plain _ _ _ (by kernel_rfl)]; exact laidMet_laidAll _ (by kernel_rfl) (by kernel_rfl))) ?_
  intro W base args ds gs before hval hW _ _ hL _
  have hval : ∀ (j : Nat) t v, Tryd.f5.params[j]? = some t → args[j]? = some v → Value.okWide Tryd.prog W .any base t v := hval
  have hW' := hW
  obtain ⟨p, q, hA0, hV, rfl, hfz, hnd⟩ := hW
  have hA : DataW.TrodAll enc Tryd.prog W 0 (fun _ => true) true Tryd.f5.params.toList args.toList ds p := hA0
  rw [Tryd.params5] at hA hval
  obtain ⟨v0, vs0, d0, ds0, p0, q0, hargs, rfl, rfl, h0, r0⟩ := trodAll_cons hA
  obtain ⟨v1, vs1, d1, ds1, p1, q1, rfl, rfl, rfl, h1, r1⟩ := trodAll_cons r0
  obtain ⟨rfl, rfl, rfl⟩ := trodAll_nil r1
  obtain rfl : args = #[v0, v1] := by cases args; simp_all
  obtain ⟨rfl, rfl⟩ := trodVars_none hV
  obtain ⟨x, hx⟩ := open_plan (hval 0 24 v0 rfl rfl) h0
  obtain ⟨y, hy⟩ := open_deed (hval 1 40 v1 rfl rfl) h1
  refine (pcall_law (ScriptLinesW x y) (TRel.cons hx (TRel.cons hy TRel.nil)) (gOk_laid (by kernel_rfl) hL (List.mem_cons_of_mem _ (List.mem_cons_of_mem _ (List.mem_cons_self ..))))).mono fun e W' ⟨he, hext⟩ => ?_
  exact ⟨_, he, law_post (s := Rows.scriptLinesSpec) laidOut (by rw [Tryd.params5]; decide +kernel) rfl rfl Tryd.underlying4 hW' rfl rfl rfl hext⟩
end Go.Proofs.YtmpddomgiplnmaaDoor.Abs

namespace Go.Proofs.YtmpddomgiplnmaaDoor
open Go
theorem scriptLines_row : Rows.ScriptLinesSaid :=
  OpenClaim.holds_of_wide 5 Tryd.f5 rfl rfl rfl rfl rfl rfl rfl ⟨rfl, rfl, rfl, rfl, rfl⟩ rfl rfl rfl rfl rfl (by kernel_rfl) Tryd.func5 (by kernel_rfl)
    (of_decide_eq_true (by kernel_rfl)) (by unfold Func.isWrapper; first | (rw [if_pos (by decide +kernel)]; kernel_rfl) | (rw [if_neg (by decide +kernel)]; exact ⟨rfl, rfl⟩))
    (fun os started H enc _ => Abs.scriptLines_lifted os started H enc)
theorem scriptLines_holds : Rows.ScriptLinesCardSaid :=
  Claim7.holds_tied_plain_at .later [] [.data, .data, .data, .data, .pinned] true (true, "d5dbe263ae37076786e5f14aa533ddf3ca6c762d9b1599f6c10f19e4b793ae75") false
    scriptLines_row (fun _ h => by cases h) (by kernel_rfl) (fun _ h => by cases h) scriptLines_row_tie rfl ⟨rfl, rfl⟩ (by kernel_rfl) rfl
    (fun f fn hf hfn => by
      obtain rfl : f = 5 := Option.some.inj ((show Tryd.prog.funcNamed "burgeon/burgeonlaw21.ScriptLines" = some 5 by kernel_rfl).symm.trans hf) |>.symm
      obtain rfl : fn = Tryd.f5 := (Option.some.inj (Tryd.func5.symm.trans hfn)).symm
      exact ⟨by kernel_rfl, fun j t ht => by
        rw [Tryd.params5] at ht
        match j, ht with
        | 0, ht => cases ht; exact (show Tryd.prog.wantsStandIn 24 = false by kernel_rfl)
        | 1, ht => cases ht; exact (show Tryd.prog.wantsStandIn 40 = false by kernel_rfl)
        | j + 2, ht => simp at ht⟩)
    (by kernel_rfl)
#print axioms scriptLines_holds
end Go.Proofs.YtmpddomgiplnmaaDoor

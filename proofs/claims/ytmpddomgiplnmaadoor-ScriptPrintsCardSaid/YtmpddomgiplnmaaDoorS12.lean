/-
  ScriptPrints, WALKED.
-/
import Derived.Test.YtmpddomgiplnmaaDoorS11
import Derived.Test.YtmpddomgiplnmaaDoorS9
namespace Go.Proofs.YtmpddomgiplnmaaDoor.Abs
open Go
set_option maxRecDepth 10000

noncomputable section

def tc1 : Tab := tabC1 17 plA (fun p => .cv (ibool (RightB p))) (fun p => p.deeds.n ≤ 1000000) tb2
theorem tc1_ok : TabOk Tryd.prog tc1 := tabC1_ok rfl (fun p hq => RightR p hq) tb2_ok

def tc2 : Tab := tabC1 18 plA (fun p => .cv (str (prF p p.deeds.n))) (fun p => RightP_ p) tc1
theorem tc2_ok : TabOk Tryd.prog tc2 := tabC1_ok rfl (fun p hq => TextR p hq) tc1_ok

def tc3 : Tab := tabC1 12 plA (fun p => .cv (ibool (RightB p))) (fun _ => True) tc2
theorem tc3_ok : TabOk Tryd.prog tc3 := tabC1_ok rfl (fun p _ => RightP p) tc2_ok

def e_ScriptPrintsW : WEnv Tryd.prog lay := ⟨{ tab := tc3, cb := fun i => bif Nat.beq i 3 then some ([0, 1, 0, 7, 15, 31, 63, 127, 255], [false, false, false, false, false, false, false, false, false]) else none, stop := fun i => Nat.beq i 2 }, good, rfl, tc3_ok, (et0_ok _)⟩
def e_ScriptPrintsW2 : WEnv Tryd.prog lay := ⟨{ tab := tc3, cb := fun i => bif Nat.beq i 3 then some ([0, 1, 0, 7, 15, 31, 63, 127, 255], [false, false, false, false, false, false, false, false, false]) else none }, good, rfl, tc3_ok, (et0_ok _)⟩
set_option maxHeartbeats 1000000 in
theorem ScriptPrintsW (p : Pl) : PCall Tryd.prog 6 [plC p] (.cv (ibool true)) := by
  refine pwalk e_ScriptPrintsW Tryd.func6 rfl 38 rfl rfl ?_
  repeat' (first | refine And.intro ?_ ?_ | refine iT fun _ _ => ?_ | refine iF fun _ _ => ?_ | intro _ | exact sE | exact bE | exact trivial | exact rfl | assumption | exact slOk_lit | exact slOk_f | exact slOk_nil | omega | contradiction)
  obtain ⟨q, hq⟩ : ∃ q, q = fewP p 205 := ⟨_, rfl⟩
  refine ⟨AW_told [] [(0, .var 24 [.imm (.val (.int .i64 q.procs)), .imm (.val (.int .i64 q.nodes)), .imm (slI ddE q.deeds)])] ?_ (AW_go e_ScriptPrintsW2 ?_)⟩
  · repeat' (first | refine And.intro ?_ ?_ | refine iT fun _ _ => ?_ | refine iF fun _ _ => ?_ | intro _ | exact sE | exact bE | exact trivial | exact rfl | assumption)
    rw [hq]
    exact bE
  have h0 : q.deeds.n ≤ 1000000 := by rw [hq]; exact fewP_n (by decide)
  clear hq
  repeat' (first | refine And.intro ?_ ?_ | refine iT fun _ _ => ?_ | refine iF fun _ _ => ?_ | intro _ | exact sE | exact bE | exact trivial | exact rfl | assumption | exact slOk_lit | exact slOk_f | exact slOk_nil | omega | contradiction | exact bok (by omega) (by decide) | exact h0 | exact (RightB_iff (p := q)).1 (bnot_f (by assumption)))
  · rename_i h
    have h : (bif !(RightB q == RightB q) then true else !aliveB) = true := h
    rw [alive_t, beq_self_eq_true] at h
    cases h
  · rename_i h
    have h : RightB q = false := bnot_t h
    refine sB ?_
    show (bif printE q == 1 then sEq (printS q) ⟨#[]⟩ else false) = true
    unfold printE printS
    rw [h]
    exact sEq_iff.2 rfl
  · rename_i h
    have h : RightB q = true := bnot_f h
    refine sB ?_
    show (bif printE q == 0 then sEq (printS q) (prF q q.deeds.n) else false) = true
    unfold printE printS
    rw [h]
    exact sEq_iff.2 rfl

end
end Go.Proofs.YtmpddomgiplnmaaDoor.Abs

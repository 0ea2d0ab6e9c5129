/-
  ScriptReads, WALKED.
-/
import Derived.Test.YtmpddomgiplnmaaDoorS14c
import Derived.Test.YtmpddomgiplnmaaDoorS9
namespace Go.Proofs.YtmpddomgiplnmaaDoor.Abs
open Go
set_option maxRecDepth 10000

noncomputable section

def rd1 : Tab := tabC1 13 sA (fun s => .tup [plC (refF s).1, iint (refF s).2]) (fun s => s.size ≤ 100000) tb2
theorem rd1_ok : TabOk Tryd.prog rd1 := tabC1_ok rfl (fun s hq => ParseR s hq) tb2_ok

def e_ScriptReadsW : WEnv Tryd.prog lay := ⟨{ tab := rd1, stop := fun i => Nat.beq i 2 }, good, rfl, rd1_ok, (et0_ok _)⟩
def e_ScriptReadsW2 : WEnv Tryd.prog lay := ⟨{ tab := rd1 }, good, rfl, rd1_ok, (et0_ok _)⟩
set_option maxHeartbeats 1000000 in
theorem ScriptReadsW (s : ByteArray) : PCall Tryd.prog 4 [str s] (.cv (ibool true)) := by
  refine pwalk e_ScriptReadsW Tryd.func4 rfl 55 rfl rfl ?_
  repeat' (first | refine And.intro ?_ ?_ | refine iT fun _ _ => ?_ | refine iF fun _ _ => ?_ | intro _ | exact sE | exact bE | exact trivial | exact rfl | assumption | exact slOk_lit | exact slOk_f | exact slOk_nil | omega | contradiction)
  obtain ⟨t, ht⟩ : ∃ t, t = cutS12 s := ⟨_, rfl⟩
  refine ⟨AW_told [(0, .cv (str t))] [] ?_ (AW_go e_ScriptReadsW2 ?_)⟩
  · repeat' (first | refine And.intro ?_ ?_ | refine iT fun _ _ => ?_ | refine iF fun _ _ => ?_ | intro _ | exact sE | exact bE | exact trivial | exact rfl | assumption)
    rw [ht]
    refine sS ?_
    unfold cutS12
    congr 1
    show (if (12000 : Int) < s.size then (12000 : Int) else s.size).toNat = _
    split <;> omega
  have h1 : t.size ≤ 100000 := by rw [ht]; exact cutS12_size s
  clear ht
  repeat' (first | refine And.intro ?_ ?_ | refine iT fun _ _ => ?_ | refine iF fun _ _ => ?_ | intro _ | exact sE | exact bE | exact trivial | exact rfl | assumption | exact slOk_lit | exact slOk_f | exact slOk_nil | omega | contradiction | exact bok (by omega) (by decide) | exact h1 | exact (parse_small (s := t)).1 | exact (parse_small (s := t)).2 _ (by assumption))
  · have he : (parseF t).2.1 ≠ 0 := fun e => by
      have g : (refF t).2 > 0 := by assumption
      rw [(parse_like e).2.1] at g
      exact absurd g (by decide)
    have hr : refF t = (pl0, (parseF t).2.2) := by
      unfold refF
      rw [show ((parseF t).2.1 == 0) = false by simpa using he]
      rfl
    refine sB ?_
    show (bif bif bif aliveB then (parseF t).2.1 == 250 else false then (parseF t).2.2 == (refF t).2 else false then likeB (parseF t).1 pl0 else false) = true
    rw [alive_t, hr, parse_bad he, (parse_250 he).1, beq_self_eq_true, likeB_t (like_refl pl0)]
    show (bif bif bif true then true else false then (parseF t).2.2 == (parseF t).2.2 else false then true else false) = true
    rw [beq_self_eq_true]
    rfl
  · have he : (parseF t).2.1 = 0 := Classical.byContradiction fun e => by
      have g : ¬ (refF t).2 > 0 := by assumption
      have hr : refF t = (pl0, (parseF t).2.2) := by
        unfold refF
        rw [show ((parseF t).2.1 == 0) = false by simpa using e]
        rfl
      have := (parse_250 e).2
      rw [hr] at g
      exact g (show (parseF t).2.2 > 0 by omega)
    obtain ⟨g1, _, g3⟩ := parse_like he
    refine sB ?_
    show (bif bif bif aliveB then (parseF t).2.1 == 0 else false then (parseF t).2.2 == 0 else false then likeB (parseF t).1 (refF t).1 else false) = true
    rw [alive_t, he, g1, likeB_t g3]
    rfl

end
end Go.Proofs.YtmpddomgiplnmaaDoor.Abs

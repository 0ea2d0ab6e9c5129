/-
  ScriptBack, WALKED.
-/
import Derived.Test.YtmpddomgiplnmaaDoorSq3
namespace Go.Proofs.YtmpddomgiplnmaaDoor.Abs
open Go
set_option maxRecDepth 10000

noncomputable section

def tb1 : Tab := tabC0 11  (.cv (ibool aliveB)) (True) ta3
theorem tb1_ok : TabOk Tryd.prog tb1 := tabC0_ok rfl (fun _ => alive) ta3_ok

def tb2 : Tab := tabC2 7 plA nI (fun p m => .cv (plC (fewP p m.toNat))) (fun p m => 0 ≤ m ∧ m ≤ 10000) tb1
theorem tb2_ok : TabOk Tryd.prog tb2 := tabC2_ok rfl (fun p m hq => (by have := few p m.toNat (by omega); rwa [Int.toNat_of_nonneg (by omega)] at this)) tb1_ok

theorem fewP_n {p : Pl} {m : Nat} (hm : m ≤ 10000) : (fewP p m).deeds.n ≤ 1000000 := by
  show min p.deeds.n m ≤ _
  omega
theorem fewP_d {p : Pl} {m : Nat} : ∀ i, i < (fewP p m).deeds.n → ((fewP p m).deeds.at_ i).nums.n ≤ 1000000 := fun i _ => by
  show min (p.deeds.at_ i).nums.n 8 ≤ _
  omega
theorem parse_small {s : ByteArray} : (parseF s).1.deeds.n ≤ 1000000 ∧ ∀ i, i < (parseF s).1.deeds.n → ((parseF s).1.deeds.at_ i).nums.n ≤ 1000000 := by
  by_cases h : (parseF s).2.1 = 0
  · have hR := RightB_iff.1 (back_text h).1
    exact ⟨Nat.le_trans hR.n (by decide), fun i hi => by
      have := (hR.ds i hi).small.n
      omega⟩
  · rw [parse_bad h]
    exact ⟨by decide, fun i hi => absurd hi (Nat.not_lt_zero i)⟩
theorem print_e {p : Pl} : (printE p = 0 ↔ RightB p = true) := by
  unfold printE
  cases RightB p <;> decide
/-- The text that is looked at. -/
def cutS12 (s : ByteArray) : ByteArray := s.extract 0 (min s.size 12000)
theorem cutS12_size (s : ByteArray) : (cutS12 s).size ≤ 100000 := by
  unfold cutS12
  rw [ByteArray.size_extract]
  omega

def e_ScriptBackW : WEnv Tryd.prog lay := ⟨{ tab := tb2, cb := fun i => bif Nat.beq i 1 then some ([0, 1, 0, 0, 8, 24, 60, 3, 255], [false, false, false, false, false, false, false, true, false]) else none, sc := fun i => Nat.beq i 28, stop := fun i => Nat.beq i 2 }, good, rfl, tb2_ok, (et0_ok _)⟩
def e_ScriptBackW2 : WEnv Tryd.prog lay := ⟨{ tab := tb2, cb := fun i => bif Nat.beq i 1 then some ([0, 1, 0, 0, 8, 24, 60, 3, 255], [false, false, false, false, false, false, false, true, false]) else none, sc := fun i => Nat.beq i 28 }, good, rfl, tb2_ok, (et0_ok _)⟩
set_option maxHeartbeats 1000000 in
theorem ScriptBackW (p : Pl) (s : ByteArray) : PCall Tryd.prog 3 [plC p, str s] (.cv (ibool true)) := by
  refine pwalk e_ScriptBackW Tryd.func3 rfl 80 rfl rfl ?_
  repeat' (first | refine And.intro ?_ ?_ | refine iT fun _ _ => ?_ | refine iF fun _ _ => ?_ | intro _ | exact sE | exact bE | exact trivial | exact rfl | assumption | exact slOk_lit | exact slOk_f | exact slOk_nil | omega | contradiction)
  obtain ⟨q, hq⟩ : ∃ q, q = fewP p 205 := ⟨_, rfl⟩
  obtain ⟨t, ht⟩ : ∃ t, t = cutS12 s := ⟨_, rfl⟩
  refine ⟨AW_told [(1, .cv (str t))] [(0, .var 24 [.imm (.val (.int .i64 q.procs)), .imm (.val (.int .i64 q.nodes)), .imm (slI ddE q.deeds)])] ?_ (AW_go e_ScriptBackW2 ?_)⟩
  · repeat' (first | refine And.intro ?_ ?_ | refine iT fun _ _ => ?_ | refine iF fun _ _ => ?_ | intro _ | exact sE | exact bE | exact trivial | exact rfl | assumption)
    · rw [ht]
      refine sS ?_
      unfold cutS12
      congr 1
      show (if (12000 : Int) < s.size then (12000 : Int) else s.size).toNat = _
      split <;> omega
    · rw [hq]
      exact bE
  have h0 : q.deeds.n ≤ 1000000 ∧ ∀ i, i < q.deeds.n → (q.deeds.at_ i).nums.n ≤ 1000000 := by rw [hq]; exact ⟨fewP_n (by decide), fewP_d⟩
  have h1 : t.size ≤ 100000 := by rw [ht]; exact cutS12_size s
  clear hq ht
  repeat' (first | refine And.intro ?_ ?_ | refine iT fun _ _ => ?_ | refine iF fun _ _ => ?_ | intro _ | exact sE | exact bE | exact trivial | exact rfl | assumption | exact slOk_lit | exact slOk_f | exact slOk_nil)
  refine ⟨AW_condW e_ScriptBackW2 [1] [] (fun (_j : Unit) => []) (fun _j => []) rfl (fun _j => ?_) ?_⟩
  · repeat' (first | refine And.intro ?_ ?_ | refine iT fun _ _ => ?_ | refine iF fun _ _ => ?_ | intro _ | exact sE | exact bE | exact trivial | exact rfl | assumption | omega | contradiction | exact slOk_lit | exact slOk_f | exact slOk_nil | exact h1 | exact (parse_small (s := t)).1 | exact (parse_small (s := t)).2 _ (by assumption))
    · rename_i h _
      refine sB ?_
      show (bif aliveB then likeB (parseF t).1 pl0 else false) = true
      rw [alive_t, parse_bad h, likeB_t (like_refl pl0)]
      rfl
    · rename_i h _
      have he : (parseF t).2.1 = 0 := Classical.byContradiction h
      obtain ⟨g1, g2⟩ := back_text he
      refine sB ?_
      show (bif (bif (bif aliveB then printE (parseF t).1 == 0 else false) then sEq (printS (parseF t).1) t else false) then RightB (parseF t).1 else false) = true
      rw [alive_t, g1, g2, print_e.2 g1, sEq_iff.2 rfl]
      rfl
  repeat' (first | refine And.intro ?_ ?_ | refine iT fun _ _ => ?_ | refine iF fun _ _ => ?_ | intro _ | exact sE | exact bE | exact trivial | exact rfl | assumption | omega | contradiction | exact slOk_lit | exact slOk_f | exact slOk_nil | exact h0.1 | exact h0.2 _ (by assumption) | exact printS_size)
  · rename_i h _ g _
    have h : printE q = 0 := h
    obtain ⟨g1, g2, g3⟩ := back_plan (print_e.1 h)
    exfalso
    rcases g with (g | g) | g
    · exact g g1
    · exact g g2
    · exact g (likeB_t g3)
  all_goals (refine ⟨(), [], ?_⟩; repeat' (first | refine And.intro ?_ ?_ | refine iT fun _ _ => ?_ | refine iF fun _ _ => ?_ | intro _ | exact sE | exact bE | exact trivial | exact rfl | assumption))

end
end Go.Proofs.YtmpddomgiplnmaaDoor.Abs

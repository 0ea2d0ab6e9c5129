/-
  THE REFERENCE'S READING, WALKED: deeds, the first line.
-/
import Derived.Test.YtmpddomgiplnmaaDoorS14
namespace Go.Proofs.YtmpddomgiplnmaaDoor.Abs
open Go
set_option maxRecDepth 10000

noncomputable section

def ru1 : Tab := tabC1 46 sA (fun s => .cv (.one (.imm (slI encStr (splitS s 32))))) (fun s => s.size ≤ 1000000000) r7
theorem ru1_ok : TabOk Tryd.prog ru1 := tabC1_ok rfl (fun s hq => splitR s hq) r7_ok

def ru2 : Tab := tabC1 47 sA (fun s => .cv (iint (numR s))) (fun s => s.size ≤ 1000000000) ru1
theorem ru2_ok : TabOk Tryd.prog ru2 := tabC1_ok rfl (fun s hq => numberR s hq) ru1_ok

def bgRC (s : ByteArray) : CV := .agg [.imm (.val (.int .i64 (bgRp s).procs)), .imm (.val (.int .i64 (bgRp s).nodes)), nilS]
def e_beginR : WEnv Tryd.prog lay := ⟨{ tab := ru2, cb := fun i => bif Nat.beq i 4 then some ([0, 1, 3, 7, 0, 16, 48, 127, 255, 511], [false, false, false, false, false, false, false, false, false, true]) else none }, good, rfl, ru2_ok, (et0_ok _)⟩
theorem beginR (s : ByteArray) (hs : s.size ≤ 1000000000) : PCall Tryd.prog 28 [str s] (.cv (bgRC s)) := by
  refine pwalk e_beginR Tryd.func28 rfl 25 rfl rfl ?_
  have f1 : ∀ i, ((splitS s 32).at_ i).size ≤ 1000000000 := fun i => Nat.le_trans (part_size s 32 i) hs
  repeat' (first | refine And.intro ?_ ?_ | refine iT fun _ _ => ?_ | refine iF fun _ _ => ?_ | intro _ | exact sE | exact bE | exact trivial | exact rfl | assumption | omega | (unfold maxLen; omega) | exact bok (by omega) (by decide) | exact slOk_lit | exact slOk_f | exact slOk_nil | exact slOk_1 rfl | exact slOk_2 rfl rfl | exact f1 _)
  · rename_i _ h
    have h : bgBad s = true := h
    unfold bgRC bgRp
    rw [h]
    exact sE
  · rename_i _ h
    have h : bgBad s = false := h
    unfold bgRC bgRp
    rw [h]
    exact sE

def e_deedR_ : WEnv Tryd.prog lay := ⟨{ tab := ru2, cb := fun i => bif Nat.beq i 5 then some ([0, 1, 3, 0, 8, 31], [false, false, false, false, false, false]) else bif Nat.beq i 10 then some ([0, 1, 0, 4, 12, 31, 63, 127], [false, false, false, false, true, true, false, true]) else none }, good, rfl, ru2_ok, (et0_ok _)⟩
theorem deedR_ (s : ByteArray) (hs : s.size ≤ 100000) : PCall Tryd.prog 30 [str s] (.cv (ddC (deedR s))) := by
  refine pwalk e_deedR_ Tryd.func30 rfl 39 rfl rfl ?_
  have f0 : 0 < (splitS s 32).n := Nat.succ_pos _
  have f1 : ∀ i, ((splitS s 32).at_ i).size ≤ 1000000000 := fun i => Nat.le_trans (part_size s 32 i) (by omega)
  have f2 : (splitS s 32).n ≤ 1000000 := by
    have := cnt_size s 32
    show cntB s 32 + 1 ≤ _
    omega
  have f3 : s.size ≤ 1000000000 := by omega
  repeat' (first | refine And.intro ?_ ?_ | refine iT fun _ _ => ?_ | refine iF fun _ _ => ?_ | intro _ | exact sE | exact bE | exact trivial | exact rfl | assumption | omega | (unfold maxLen; omega))
  refine ⟨AW_loopW e_deedR_ [2, 3] [] (fun (k : Nat) => [(4, .cv (iint k))]) (fun k => []) (fun k => 8 - k) (fun k => 1 ≤ k ∧ k ≤ 8 ∧ ∀ x, isK x = true → x < k → ¬ wordK x = (splitS s 32).at_ 0) (1) ?_ ?_⟩
  · repeat' (first | refine And.intro ?_ ?_ | refine iT fun _ _ => ?_ | refine iF fun _ _ => ?_ | intro _ | exact sE | exact bE | exact trivial | exact rfl | assumption | omega)
    rename_i x hx hlt _
    rcases isK_cases hx with rfl | rfl | rfl | rfl | rfl | rfl | rfl <;> exact absurd hlt (by decide)
  rintro k ⟨hk1, hk8, hn⟩
  have w1 : IntKind.i64.wrap ((k : Int) + 1) = k + 1 := by rw [IntKind.wrap_i64]; omega
  repeat' (first | refine And.intro ?_ ?_ | refine iT fun _ _ => ?_ | refine iF fun _ _ => ?_ | intro _ | exact sE | exact bE | exact trivial | exact rfl | assumption | omega)
  · have e : (splitS s 32).at_ 0 = wordK k := by assumption
    have hx : isK (k : Int) = true := isK_of_le (by omega)
    have hkx : kindS s = k := by
      unfold kindS
      rw [e]
      exact kndOf_hit hx
    have hx0 : ((k : Int) == 0) = false := by
      simp
      omega
    have hd : deedR s = ⟨k, ⟨(((splitS s 32).n : Int) - 1).toNat, fun i => numR ((splitS s 32).at_ (1 + i))⟩⟩ := by
      unfold deedR
      rw [hkx, hx0]
      rfl
    rw [hd]
    refine ⟨AW_absent 2 1 (fun _ _ => ivDef) ?_⟩
    refine AW_loopW e_deedR_ [2, 5, 23, 24] [] (fun (i : Nat) => [(25, .cv (iint i))]) (fun i => [(1, .var 40 [.imm (.val (.int .i64 k)), .osl 3 1 0 0 i true]), (3, .rows 2 1 i fun q _ => .val (.int .i64 (numR ((splitS s 32).at_ (1 + q)))))]) (fun i => (splitS s 32).n - i) (fun i => i ≤ (((splitS s 32).n : Int) - 1).toNat) (0) ?_ ?_
    · repeat' (first | refine And.intro ?_ ?_ | refine iT fun _ _ => ?_ | refine iF fun _ _ => ?_ | intro _ | exact sE | exact bE | exact trivial | exact rfl | assumption | omega)
      · exact ⟨BLe.var ⟨CLe.refl _, CLe.empty, trivial⟩⟩
      · exact bR rfl fun q j hq _ => absurd hq (Nat.not_lt_zero q)
    intro i hi
    repeat' (first | refine And.intro ?_ ?_ | refine iT fun _ _ => ?_ | refine iF fun _ _ => ?_ | intro _ | exact sE | exact bE | exact trivial | exact rfl | assumption | omega | (unfold maxLen; omega) | exact bok (by omega) (by decide) | exact slOk_1 rfl | exact slOk_2 rfl rfl | exact f1 _)
    · refine ⟨i + 1, [(3, 5)], ?_⟩
      repeat' (first | refine And.intro ?_ ?_ | refine iT fun _ _ => ?_ | refine iF fun _ _ => ?_ | intro _ | exact sE | exact bE | exact trivial | exact rfl | assumption | omega | exact sW (by omega) (by omega) (by omega) | (dsimp only; omega))
      refine bR rfl fun q j hq hj => ?_
      obtain rfl : j = 0 := by have hj : j < 1 := hj; omega
      show (bif Nat.blt q i then IV.val (.int .i64 (numR ((splitS s 32).at_ (1 + q)))) else [IV.val (.int .i64 (numR ((splitS s 32).at_ (1 + i))))].getD (plusN 0 (q - i) * 1 + 0) ivDef) = .val (.int .i64 (numR ((splitS s 32).at_ (1 + q))))
      rw [plusN_eq]
      exact rowS (f := fun q => .val (.int .i64 (numR ((splitS s 32).at_ (1 + q))))) hq rfl
    · obtain rfl : i = (((splitS s 32).n : Int) - 1).toNat := by omega
      refine sAg ⟨CLe.refl _, CLe.imm (ILe.sl rfl (fun h => by cases h) (.inr ⟨rfl, fun q j hq hj => ILe.of_eq ?_⟩)), trivial⟩
      obtain rfl : j = 0 := by omega
      rw [plusN_eq, Nat.zero_add]
      rfl
  · have e : ¬ (splitS s 32).at_ 0 = wordK k := by assumption
    refine ⟨k + 1, [], ?_⟩
    repeat' (first | refine And.intro ?_ ?_ | refine iT fun _ _ => ?_ | refine iF fun _ _ => ?_ | intro _ | exact sE | exact bE | exact trivial | exact rfl | assumption | omega | exact sW (by omega) (by omega) (by omega) | (dsimp only; omega))
    rename_i x _ hx hlt hw
    rcases Int.lt_or_eq_of_le (show x ≤ (k : Int) by omega) with h | rfl
    · exact hn x hx h hw
    · exact e hw.symm
  · have hk : kindS s = 0 := kndOf_miss fun x hx => hn x hx (by
      have := isK_cases hx
      omega)
    unfold deedR
    rw [hk]
    exact sAg ⟨CLe.refl _, cNil, trivial⟩
  

end
end Go.Proofs.YtmpddomgiplnmaaDoor.Abs

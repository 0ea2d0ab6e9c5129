/-
  THE REFERENCE'S Parse, WALKED.
-/
import Derived.Test.YtmpddomgiplnmaaDoorS14b
namespace Go.Proofs.YtmpddomgiplnmaaDoor.Abs
open Go
set_option maxRecDepth 10000

noncomputable section

def ru3 : Tab := tabC1 28 sA (fun s => .cv (bgRC s)) (fun s => s.size ≤ 1000000000) ru2
theorem ru3_ok : TabOk Tryd.prog ru3 := tabC1_ok rfl (fun s hq => beginR s hq) ru2_ok

def ru4 : Tab := tabC1 30 sA (fun s => .cv (ddC (deedR s))) (fun s => s.size ≤ 100000) ru3
theorem ru4_ok : TabOk Tryd.prog ru4 := tabC1_ok rfl (fun s hq => deedR_ s hq) ru3_ok

def p0 (s : ByteArray) (m : Nat) : Int := bif Nat.beq m 0 then 0 else (bgRp (lrow s 0)).procs
def n0 (s : ByteArray) (m : Nat) : Int := bif Nat.beq m 0 then 0 else (bgRp (lrow s 0)).nodes
def e_ParseR : WEnv Tryd.prog lay := ⟨{ tab := ru4, stop := fun i => Nat.beq i 17 }, good, rfl, ru4_ok, (et0_ok _)⟩
def e_ParseR2 : WEnv Tryd.prog lay := ⟨{ tab := ru4 }, good, rfl, ru4_ok, (et0_ok _)⟩
theorem ParseR (s : ByteArray) (hs : s.size ≤ 100000) : PCall Tryd.prog 13 [str s] (.tup [plC (refF s).1, iint (refF s).2]) := by
  refine pwalk e_ParseR Tryd.func13 rfl 65 rfl rfl ?_
  repeat' (first | refine And.intro ?_ ?_ | refine iT fun _ _ => ?_ | refine iF fun _ _ => ?_ | intro _ | exact sE | exact bE | exact trivial | exact rfl | assumption | omega | contradiction)
  refine ⟨AW_absent 40 2 (fun _ _ => ivDef) ?_⟩
  refine AW_loopW e_ParseR [0, 2, 4] [] (fun (p : Nat × Nat × ByteArray) => [(5, .cv (str p.2.2)), (6, .cv (iint ((p.2.1 : Int) + 1))), (7, .cv (iint p.1))]) (fun p => [(1, .var 24 [.imm (.val (.int .i64 (p0 s p.2.1))), .imm (.val (.int .i64 (n0 s p.2.1))), .osl 3 2 0 0 (p.2.1 - 1) true]), (3, .rows 40 2 (p.2.1 - 1) fun q j => ddE.f (deedR (lrow s (q + 1))) j)]) (fun p => s.size - p.1) (fun p => PInv s p.2.1 p.1 p.2.2) ((0, 0, ⟨#[]⟩)) ?_ ?_
  · repeat' (first | refine And.intro ?_ ?_ | refine iT fun _ _ => ?_ | refine iF fun _ _ => ?_ | intro _ | exact sE | exact bE | exact trivial | exact rfl | assumption | omega | contradiction)
    · exact ⟨BLe.var ⟨CLe.refl _, CLe.refl _, CLe.empty, trivial⟩⟩
    · exact bR rfl fun q j hq _ => absurd hq (Nat.not_lt_zero q)
    · exact PInv.start s
  rintro ⟨i, m, t⟩ hI
  have hI : PInv s m i t := hI
  have h1 := hI.le; have h2 := hI.size
  have h3 : m ≤ 201 := by
    rcases Nat.eq_zero_or_pos m with h | h
    · omega
    · exact (hI.go (by omega)).1
  have w1 : IntKind.i64.wrap ((i : Int) + 1) = i + 1 := by rw [IntKind.wrap_i64]; omega
  have hex : (s.extract i (i + 1)).size ≤ 1 := by rw [ByteArray.size_extract]; omega
  repeat' (first | refine And.intro ?_ ?_ | refine iT fun _ _ => ?_ | refine iF fun _ _ => ?_ | intro _ | exact sE | exact bE | exact trivial | exact rfl | assumption | omega | contradiction | exact slOk_lit | exact slOk_f | exact slOk_nil | exact slOk_1 rfl | exact slOk_2 rfl rfl | (show (m - 1 + 1) * 32 ≤ _; omega) | (unfold maxLen; dsimp only; omega) | (show (i : Int) ≤ IntKind.i64.wrap ((i : Int) + 1); omega) | (show IntKind.i64.wrap ((i : Int) + 1) ≤ _; omega) | (show t.size + (s.extract i (IntKind.i64.wrap ((i : Int) + 1)).toNat).size ≤ _; rw [w1, show ((i : Int) + 1).toNat = i + 1 from by omega]; omega) | (show t.size ≤ _; omega))
  · have hb : ¬ byteAt s i = 10 := by assumption
    refine ⟨(i + 1, m, t ++ s.extract i (i + 1)), [], ?_⟩
    repeat' (first | refine And.intro ?_ ?_ | refine iT fun _ _ => ?_ | refine iF fun _ _ => ?_ | intro _ | exact sE | exact bE | exact trivial | exact rfl | assumption | omega | exact sW (by omega) (by omega) (by omega) | (dsimp only; omega) | exact hI.step (by omega) hb)
    refine sS ?_
    show t ++ s.extract i (IntKind.i64.wrap ((i : Int) + 1)).toNat = _
    rw [w1, show ((i : Int) + 1).toNat = i + 1 from by omega]
  · have hb : byteAt s i = 10 := Classical.byContradiction (by assumption)
    have hm : (m : Int) + 1 = 1 := by assumption
    obtain rfl : m = 0 := by omega
    have hc : (!beginsB (bgRp t)) = true := by assumption
    rw [hI.bad0 (by omega) hb (bnot_t hc)]
    exact sP (sAg ⟨CLe.refl _, CLe.refl _, cNil, trivial⟩) sE
  · have hb : byteAt s i = 10 := Classical.byContradiction (by assumption)
    have hm : (m : Int) + 1 = 1 := by assumption
    obtain rfl : m = 0 := by omega
    have hc : (!beginsB (bgRp t)) = false := by assumption
    have hl := (hI.line (by omega) hb).2.1
    have hg := hI.good0 (by omega) hb (bnot_f hc)
    subst hl
    refine ⟨AW_absent 40 2 (fun _ _ => ivDef) (AW_go e_ParseR2 ?_)⟩
    repeat' (first | refine And.intro ?_ ?_ | refine iT fun _ _ => ?_ | refine iF fun _ _ => ?_ | intro _ | exact sE | exact bE | exact trivial | exact rfl | assumption | omega)
    refine ⟨(i + 1, 1, ⟨#[]⟩), [(3, 5)], ?_⟩
    repeat' (first | refine And.intro ?_ ?_ | refine iT fun _ _ => ?_ | refine iF fun _ _ => ?_ | intro _ | exact sE | exact bE | exact trivial | exact rfl | assumption | omega | exact sW (by omega) (by omega) (by omega) | (dsimp only; omega) | exact hg)
    · exact ⟨BLe.var ⟨CLe.refl _, CLe.refl _, CLe.empty, trivial⟩⟩
    · exact bR rfl fun q j hq _ => absurd hq (Nat.not_lt_zero q)
  · have hb : byteAt s i = 10 := Classical.byContradiction (by assumption)
    have hm : ¬ (m : Int) + 1 = 1 := by assumption
    obtain ⟨m, rfl⟩ : ∃ k, m = k + 1 := ⟨m - 1, by omega⟩
    rename_i hc _
    rw [hI.bad (by omega) hb (by
      rcases hc with hc | hc
      · cases hr : rightB (deedR t) with
        | false => exact .inl rfl
        | true => exact absurd hr hc
      · exact .inr (by
          have hc : ((m + 1 - 1 : Nat) : Int) = 200 := hc
          omega))]
    exact sP (sAg ⟨CLe.refl _, CLe.refl _, cNil, trivial⟩) (sI (by show (((m + 1 : Nat) : Int)) + 1 = _; omega))
  · have hb : byteAt s i = 10 := Classical.byContradiction (by assumption)
    have hm : ¬ (m : Int) + 1 = 1 := by assumption
    obtain ⟨m, rfl⟩ : ∃ k, m = k + 1 := ⟨m - 1, by omega⟩
    rename_i hc _
    have hl := (hI.line (by omega) hb).2.1
    obtain ⟨hg, hm2⟩ := hI.good (by omega) hb (by
      cases hr : rightB (deedR t) with
      | true => rfl
      | false => exact absurd (.inl (show ¬ rightB (deedR t) = true by rw [hr]; exact fun h => by cases h)) hc) (fun e => hc (.inr (by
        show (((m + 1 - 1 : Nat) : Int)) = 200
        omega)))
    refine ⟨AW_go e_ParseR2 ?_⟩
    repeat' (first | refine And.intro ?_ ?_ | refine iT fun _ _ => ?_ | refine iF fun _ _ => ?_ | intro _ | exact sE | exact bE | exact trivial | exact rfl | assumption | omega)
    refine ⟨(i + 1, m + 2, ⟨#[]⟩), [(3, 7)], ?_⟩
    repeat' (first | refine And.intro ?_ ?_ | refine iT fun _ _ => ?_ | refine iF fun _ _ => ?_ | intro _ | exact sE | exact bE | exact trivial | exact rfl | assumption | omega | exact sW (by omega) (by omega) (by omega) | (dsimp only; omega) | exact hg)
    all_goals first | exact sI (by show IntKind.i64.wrap ((((m + 1 : Nat) : Int) + 1) + 1) = (((m + 2 : Nat)) : Int) + 1; rw [IntKind.wrap_i64]; omega) | skip
    refine bR rfl fun q j hq hj => ?_
    show (bif Nat.blt q m then ddE.f (deedR (lrow s (q + 1))) j else [IV.val (.int .i64 (deedR t).kind), slI i64E (deedR t).nums].getD (plusN 0 (q - m) * 2 + j) ivDef) = _
    rw [plusN_eq]
    exact app_last (f := fun q j => ddE.f (deedR (lrow s (q + 1))) j) hq fun _ => by rw [hl]; rfl
  · rename_i hc _
    obtain rfl : i = s.size := by omega
    rcases Nat.eq_zero_or_pos m with rfl | hm
    · rw [hI.end0]
      exact sP (sAg ⟨CLe.refl _, CLe.refl _, cNil, trivial⟩) sE
    · obtain ⟨m, rfl⟩ : ∃ k, m = k + 1 := ⟨m - 1, by omega⟩
      rw [hI.end1 (by
        rcases hc with hc | hc
        · exact hc
        · have hc : (((m + 1 : Nat) : Int)) + 1 = 1 := hc
          omega)]
      exact sP (sAg ⟨CLe.refl _, CLe.refl _, cNil, trivial⟩) (sI (by show (((m + 1 : Nat) : Int)) + 1 = _; omega))
  · rename_i hc _
    obtain rfl : i = s.size := by omega
    obtain ⟨m, rfl⟩ : ∃ k, m = k + 1 := ⟨m - 1, by
      have : ¬ m = 0 := fun e => hc (.inr (by show ((m : Nat) : Int) + 1 = 1; omega))
      omega⟩
    rw [hI.end2 (Classical.byContradiction fun h => hc (.inl h))]
    refine sP (sAg ⟨CLe.refl _, CLe.refl _, CLe.imm (ILe.sl rfl (fun h => by cases h) (.inr ⟨rfl, fun q j hq hj => ILe.of_eq ?_⟩)), trivial⟩) sE
    rw [plusN_eq, Nat.zero_add]
    rfl
  

end
end Go.Proofs.YtmpddomgiplnmaaDoor.Abs

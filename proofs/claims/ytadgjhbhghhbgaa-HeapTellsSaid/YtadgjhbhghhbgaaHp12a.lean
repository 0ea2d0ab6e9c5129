/-
  Lay ON AN ARENA OF OURS, AS AN ENTRY OF A TABLE.
-/
import Derived.Test.YtadgjhbhghhbgaaHp11
namespace Go.Proofs.Ytadgjhbhghhbgaa.Abs
open Go
set_option maxRecDepth 10000

/-- Lay on an arena of ours, as it is met. -/
def spLay : Spec := fun a0 Bs => match a0, Bs with
  | [.agg [.osl 0 e 0 0 n _, .imm c], cp, cl], [B] => bif Nat.beq e 16 then match decR 91 ndE B, nI.dec cp, (codSl itE).dec cl with
    | some (s, q0), some (p, q1), some (l, q2) => some (.cv (u64 (layRf p.toNat l)), [(0, some (bkR 91 ndE (laidN s p.toNat l l.n)))], 0, q0 ∧ (q1 ∧ (q2 ∧ (slOk intE c ∧ (n = s.n ∧ (0 ≤ p ∧ (p.toNat + l.n ≤ s.n ∧ s.n ≤ 512)))))))
    | _, _, _ => none
    else none
  | _, _ => none
theorem spLay_ok : SpecOk Try.prog 30 spLay := by
  intro a0 Bs r' U n' vc hs hv
  unfold spLay at hs
  split at hs
  · rename_i e n app c cp cl B
    cases hb : Nat.beq e 16 with
    | false => rw [hb] at hs; cases hs
    | true =>
      rw [hb] at hs
      simp only [cond_true] at hs
      obtain rfl := Nat.eq_of_beq_eq_true hb
      split at hs
      · rename_i s q0 p q1 l q2 d0 d1 d2
        simp only [Option.some.injEq, Prod.mk.injEq] at hs
        obtain ⟨rfl, rfl, rfl, rfl⟩ := hs
        obtain ⟨p0, p1, p2, p3, rfl, p4, p5, p6⟩ := hv
        have hp : p = (p.toNat : Int) := by omega
        refine ⟨[.agg [.osl 0 16 0 0 s.n false, .imm (slI intE (slG intE c))], iint p, .one (.imm (slI itE l))], [bkR 91 ndE s], TLe.cons (CLe.aggL ⟨CLe.oslf, CLe.imm (slI_le p3), trivial⟩) (TLe.cons (nI.le _ _ _ d1 p1) (TLe.cons ((codSl itE).le _ _ _ d2 p2) TLe.nil)), ⟨decR_le d0 p0, trivial⟩, ?_⟩
        have h := refLay s (slG intE c) p.toNat l p5 p6
        rw [← hp] at h
        exact h
      · cases hs
  · cases hs
def eLay : ETab := etC 30 spLay et0
theorem eLay_ok : ETabOk Try.prog eLay := etC_ok rfl spLay_ok (et0_ok _)

end Go.Proofs.Ytadgjhbhghhbgaa.Abs

/-
  Lay ON AN ARENA OF OURS, AS AN ENTRY OF A TABLE.
-/
import Derived.Test.YtadgjhbhghhbgaaHp11
import Derived.Test.YtadgjhbhghhbgaaHp16
namespace Go.Proofs.Ytadgjhbhghhbgaa.Abs
open Go
set_option maxRecDepth 10000

/-- Lay on an arena of ours, as it is met. -/
def spLay : Spec := fun a0 Bs => match a0, Bs with
  | [.agg [.osl 0 e 0 0 n _, .imm c], cp, cl], [B] => bif Nat.beq e 16 then match decR 91 ndE B, nI.dec cp, (codSl itE).dec cl with
    | some (s, q0), some (p, q1), some (l, q2) => some (.cv (u64 (layRf p.toNat l)), [(0, some (bkR 91 ndE (laidN s p.toNat l l.n)))], 0, q0 ∧ (q1 ∧ (q2 ∧ (slOk intE c ∧ (n = s.n ∧ (0 ≤ p ∧ (p.toNat + l.n ≤ s.n ∧ s.n ≤ 512)))))))
    | _, _, _ => none
    else none
  | _, _ => none
theorem spLay_ok : SpecOk Try.prog 30 spLay := by
  intro a0 Bs r' U n' vc hs hv
  unfold spLay at hs
  split at hs
  · rename_i e n app c cp cl B
    cases hb : Nat.beq e 16 with
    | false => rw [hb] at hs; cases hs
    | true =>
      rw [hb] at hs
      simp only [cond_true] at hs
      obtain rfl := Nat.eq_of_beq_eq_true hb
      split at hs
      · rename_i s q0 p q1 l q2 d0 d1 d2
        simp only [Option.some.injEq, Prod.mk.injEq] at hs
        obtain ⟨rfl, rfl, rfl, rfl⟩ := hs
        obtain ⟨p0, p1, p2, p3, rfl, p4, p5, p6⟩ := hv
        have hp : p = (p.toNat : Int) := by omega
        refine ⟨[.agg [.osl 0 16 0 0 s.n false, .imm (slI intE (slG intE c))], iint p, .one (.imm (slI itE l))], [bkR 91 ndE s], TLe.cons (CLe.aggL ⟨CLe.oslf, CLe.imm (slI_le p3), trivial⟩) (TLe.cons (nI.le _ _ _ d1 p1) (TLe.cons ((codSl itE).le _ _ _ d2 p2) TLe.nil)), ⟨decR_le d0 p0, trivial⟩, ?_⟩
        have h := refLay s (slG intE c) p.toNat l p5 p6
        rw [← hp] at h
        exact h
      · cases hs
  · cases hs
def eLay : ETab := etC 30 spLay et0
theorem eLay_ok : ETabOk Try.prog eLay := etC_ok rfl spLay_ok (et0_ok _)

end Go.Proofs.Ytadgjhbhghhbgaa.Abs

/-
  THE LAWS HeapLeast AND HeapOlder: what they share.
-/
namespace Go.Proofs.Ytadgjhbhghhbgaa.Abs
open Go
set_option maxRecDepth 10000

/-- The first items of a row, put in order. -/
def rowB (b : Nat) (l : Sl Item) : Nat → Sl Item
  | 0 => ⟨0, fun _ => it0⟩
  | i + 1 => bif Nat.blt i b then withI (rowB b l i) (l.at_ i) else rowB b l i
theorem rowB_t {b : Nat} {l : Sl Item} {i : Nat} (h : i < b) : rowB b l (i + 1) = withI (rowB b l i) (l.at_ i) := by
  rw [rowB, blt_t h]
  rfl
theorem rowB_f {b : Nat} {l : Sl Item} {i : Nat} (h : b ≤ i) : rowB b l (i + 1) = rowB b l i := by
  rw [rowB, blt_f h]
  rfl
theorem rowB_n (b : Nat) (l : Sl Item) : ∀ i, (rowB b l i).n = min i b
  | 0 => by
    rw [Nat.zero_min]
    rfl
  | i + 1 => by
    rcases Nat.lt_or_ge i b with h | h
    · rw [rowB_t h]
      show (rowB b l i).n + 1 = _
      rw [rowB_n b l i]
      omega
    · rw [rowB_f h, rowB_n b l i]
      omega
/-- The arena of 300 nodes in which a row stands as a heap. -/
def arL (X : Sl Item) : Ar := ⟨laidN ⟨300, fun _ => nd0⟩ 0 X X.n, ⟨300 - X.n, fun i => 299 - i⟩⟩
/-- A row without its first. -/
def tailI (s : Sl Item) : Sl Item := ⟨((s.n : Int) - 1).toNat, fun i => s.at_ (Int.toNat 1 + i)⟩
noncomputable def th22 : Tab := tabC0 20 (.cv (ibool aliveB)) True (tabC2 21 (codSl itE) itA (fun s x => .cv (.one (.imm (slI itE (withI s x))))) (fun s _ => s.n ≤ 512) (tabC2 22 arA rI (fun a r => .tup [arC (popC a r).1, u64 (popC a r).2.1, itC (popX a r), iint (popC a r).2.2.1]) (fun _ _ => True) th14))
theorem th22_ok : TabOk Try.prog th22 := tabC0_ok rfl (fun _ => lawAlive) (tabC2_ok rfl (fun s x h => refWith s x h) (tabC2_ok rfl (fun a r _ => heapPop a r) th14_ok))
theorem cnt_row9 {k q : Nat} (hq : q < k + 1) : (bif Nat.blt q k then intE.f (299 - (q : Int)) 0 else [IV.val (.int .i64 (299 - (k : Int)))].getD (plusN 0 (q - k) * 1 + 0) ivDef) = intE.f (299 - (q : Int)) 0 := by
  rcases Nat.lt_or_ge q k with h | h
  · rw [blt_t h]
    rfl
  · obtain rfl : q = k := by omega
    rw [blt_f (Nat.le_refl _), Nat.sub_self]
    rfl

end Go.Proofs.Ytadgjhbhghhbgaa.Abs

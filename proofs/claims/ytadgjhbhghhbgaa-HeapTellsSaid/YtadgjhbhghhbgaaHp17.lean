/-
  THE LAWS HeapLeast AND HeapOlder: what they share.
-/
import Derived.Test.YtadgjhbhghhbgaaHp12a
import Derived.Test.YtadgjhbhghhbgaaHp16
namespace Go.Proofs.Ytadgjhbhghhbgaa.Abs
open Go
set_option maxRecDepth 10000

/-- The first items of a row, put in order. -/
def rowB (b : Nat) (l : Sl Item) : Nat → Sl Item
  | 0 => ⟨0, fun _ => it0⟩
  | i + 1 => bif Nat.blt i b then withI (rowB b l i) (l.at_ i) else rowB b l i
theorem rowB_t {b : Nat} {l : Sl Item} {i : Nat} (h : i < b) : rowB b l (i + 1) = withI (rowB b l i) (l.at_ i) := by
  rw [rowB, blt_t h]
  rfl
theorem rowB_f {b : Nat} {l : Sl Item} {i : Nat} (h : b ≤ i) : rowB b l (i + 1) = rowB b l i := by
  rw [rowB, blt_f h]
  rfl
theorem rowB_n (b : Nat) (l : Sl Item) : ∀ i, (rowB b l i).n = min i b
  | 0 => by
    rw [Nat.zero_min]
    rfl
  | i + 1 => by
    rcases Nat.lt_or_ge i b with h | h
    · rw [rowB_t h]
      show (rowB b l i).n + 1 = _
      rw [rowB_n b l i]
      omega
    · rw [rowB_f h, rowB_n b l i]
      omega
/-- The arena of 300 nodes in which a row stands as a heap. -/
def arL (X : Sl Item) : Ar := ⟨laidN ⟨300, fun _ => nd0⟩ 0 X X.n, ⟨300 - X.n, fun i => 299 - i⟩⟩
/-- A row without its first. -/
def tailI (s : Sl Item) : Sl Item := ⟨((s.n : Int) - 1).toNat, fun i => s.at_ (Int.toNat 1 + i)⟩
noncomputable def th22 : Tab := tabC0 20 (.cv (ibool aliveB)) True (tabC2 21 (codSl itE) itA (fun s x => .cv (.one (.imm (slI itE (withI s x))))) (fun s _ => s.n ≤ 512) (tabC2 22 arA rI (fun a r => .tup [arC (popC a r).1, u64 (popC a r).2.1, itC (popX a r), iint (popC a r).2.2.1]) (fun _ _ => True) th14))
theorem th22_ok : TabOk Try.prog th22 := tabC0_ok rfl (fun _ => lawAlive) (tabC2_ok rfl (fun s x h => refWith s x h) (tabC2_ok rfl (fun a r _ => heapPop a r) th14_ok))
theorem cnt_row9 {k q : Nat} (hq : q < k + 1) : (bif Nat.blt q k then intE.f (299 - (q : Int)) 0 else [IV.val (.int .i64 (299 - (k : Int)))].getD (plusN 0 (q - k) * 1 + 0) ivDef) = intE.f (299 - (q : Int)) 0 := by
  rcases Nat.lt_or_ge q k with h | h
  · rw [blt_t h]
    rfl
  · obtain rfl : q = k := by omega
    rw [blt_f (Nat.le_refl _), Nat.sub_self]
    rfl

end Go.Proofs.Ytadgjhbhghhbgaa.Abs

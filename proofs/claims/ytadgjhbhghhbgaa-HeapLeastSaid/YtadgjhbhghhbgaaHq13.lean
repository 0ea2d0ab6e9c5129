/-
  PLAIN LAW: HeapLeast is true.
-/
import Derived.Test.YtadgjhbhghhbgaaHq12
import Derived.Test.YtadgjhbhghhbgaaHp18
namespace Go.Proofs.Ytadgjhbhghhbgaa.Abs
open Go

/-- A heap with one more: its first, the others; the row with one more. -/
theorem least_heap {b : Ar} {t : Int} {H : Fo} {X : Sl Item} {x : Item} (hb : HeapAt b t H) (sX : Sorted X) (pb : H.items.Perm (toL X ++ [x])) :
    ∃ p k, H = .node p ((withI X x).at_ 0) k .nil ∧ (toL (tailI (withI X x))).Perm k.items ∧ (toL (tailI (withI X x))).Pairwise leI := by
  rcases hb.one with rfl | ⟨p, y, k, rfl, hk⟩
  · exact absurd pb.length_eq (by simp [Fo.items])
  · have hi : (Fo.node p y k .nil).items = y :: k.items := by simp [Fo.items]
    rw [hi] at pb
    obtain ⟨L', e, pL, sL⟩ := sorted_head ((with_perm X x).trans pb.symm) (sorted_toL (with_sorted sX)) (heapy_all hk)
    have h0 : 0 < (withI X x).n := Nat.succ_pos _
    rw [toL_tail h0] at e
    obtain ⟨rfl, rfl⟩ := List.cons.inj e
    exact ⟨p, k, rfl, pL, sL⟩
theorem least_ok {X : Sl Item} (hX : X.n ≤ 20) (sX : Sorted X) (x : Item) : leastR X x = true := by
  have hsz : (rowF 0 X).size = X.n := rowF_size 0 X
  have hfr : (arL X).free.n = 300 - X.n := rfl
  obtain ⟨b, t, H, e, h1, k1, hb, pb, n1, f1, f2, g1⟩ := insA_ok2 (arL_right hX) (arL_rng hX) (by omega) (arL_heap hX sX) (by omega) x
  rw [row_items_toL] at pb
  obtain ⟨p, k, rfl, pL, sL⟩ := least_heap hb sX pb
  have hHs : (Fo.node p ((withI X x).at_ 0) k .nil).size ≤ 21 := by
    rw [← Fo.items_len, pb.length_eq, List.length_append, toL_len]
    show X.n + 1 ≤ 21
    omega
  obtain ⟨m1, m2⟩ := min_ok h1 hb (by omega)
  obtain ⟨c, t2, A, e2, ex, c1, k2, hA, pA, _⟩ := pop_ok h1 g1 hb (by omega) (by omega)
  have hAs : A.size ≤ 200 := by
    rw [← Fo.items_len, pA.length_eq, Fo.items_len]
    have : (Fo.node p ((withI X x).at_ 0) k .nil).size = k.size + 1 + 0 := rfl
    omega
  obtain ⟨i1, i2, i3, _⟩ := items_ok c1 hA hAs
  have hs : sameI (itemsL c t2) (tailI (withI X x)) = true := same_ok (sorted_eq (i2.trans (pA.trans pL.symm)) i3 sL)
  unfold leastR
  rw [e, m1, m2, e2, ex, i1, hs, alive_true, itEq_iff.2 rfl]
  rfl
theorem least7 (l : Sl Item) (x : Item) : PCall Try.prog 8 [.one (.imm (slI itE l)), itC x] (.cv (ibool true)) := by
  have h := lawLeast l x
  rw [least_ok (by rw [rowB_n]; omega) (rowB_sorted 20 l _) x] at h
  exact h
end Go.Proofs.Ytadgjhbhghhbgaa.Abs

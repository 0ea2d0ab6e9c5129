/-
  PLAIN LAW: HeapOlder is true.
-/
import Derived.Test.YtadgjhbhghhbgaaHq12
import Derived.Test.YtadgjhbhghhbgaaHp19
namespace Go.Proofs.Ytadgjhbhghhbgaa.Abs
open Go

/-- The items of a heap, told by a row in order. -/
theorem items_row {a : Ar} (h : RightP a) {r : Int} {F : Fo} {L : List Item} (hr : HeapAt a r F) (hs : F.size ≤ 200) (hp : F.items.Perm L) (sL : L.Pairwise leI) : itemsE a r = 0 ∧ toL (itemsL a r) = L := by
  obtain ⟨i1, i2, i3, _⟩ := items_ok h hr hs
  exact ⟨i1, sorted_eq (i2.trans hp) i3 sL⟩
theorem older_ok {X : Sl Item} (hX : X.n ≤ 15) (sX : Sorted X) (x : Item) : olderR X x = true := by
  have hsz : (rowF 0 X).size = X.n := rowF_size 0 X
  have hfr : (arL X).free.n = 300 - X.n := rfl
  have h0 := arL_heap (X := X) (by omega) sX
  obtain ⟨b, t, H, e, h1, k1, hb, pb, n1, f1, f2, g1⟩ := insA_ok2 (arL_right (by omega)) (arL_rng (by omega)) (by omega) h0 (by omega) x
  rw [row_items_toL] at pb
  have hHs : H.size ≤ 200 := by
    rw [← Fo.items_len, pb.length_eq, List.length_append, toL_len]
    show X.n + 1 ≤ 200
    omega
  have pW : H.items.Perm (toL (withI X x)) := pb.trans (with_perm X x).symm
  have sW := sorted_toL (with_sorted (x := x) sX)
  obtain ⟨i1, i2⟩ := items_row h1 hb hHs pW sW
  unfold olderR
  cases hz : ((X.n : Int) == 0) with
  | true =>
    have hz : X.n = 0 := by
      have : (X.n : Int) = 0 := by simpa using hz
      omega
    have hw : toL (withI X x) = [x] := by
      have hp := with_perm X x
      rw [show toL X = [] from List.length_eq_zero_iff.1 (by rw [toL_len, hz])] at hp
      exact List.perm_singleton.1 hp
    have hs : sameI (itemsL b t) ⟨1, fun _ => x⟩ = true := same_ok (by rw [i2, hw]; rfl)
    simp only [cond_true]
    rw [e, i1, hs, alive_true]
    rfl
  | false =>
    have hz : 0 < X.n := by
      have : ¬ (X.n : Int) = 0 := by simpa using hz
      omega
    have hb0 := h0.keeps k1
    have hrow : ∃ k, rowF 0 X = .node 0 (X.at_ 0) k .nil := by
      unfold rowF
      split
      · omega
      · exact ⟨_, rfl⟩
    obtain ⟨k, hk⟩ := hrow
    have hik := row_items_toL X
    rw [toL_tail hz, hk] at hik
    have hik : k.items = toL (tailI X) := by
      have h2 : X.at_ 0 :: (k.items ++ []) = X.at_ 0 :: toL (tailI X) := hik
      rw [List.append_nil] at h2
      exact (List.cons.inj h2).2
    have hb1 := hb0
    rw [hk] at hb1 hsz
    obtain ⟨c, t2, A, e2, ex, c1, k2, hA, pA, _⟩ := pop_ok h1 g1 hb1 (by omega) (by omega)
    have hst : (toL (tailI X)).Pairwise leI := by
      have := sorted_toL sX
      rw [toL_tail hz, List.pairwise_cons] at this
      exact this.2
    rw [hik] at pA
    have hAs : A.size ≤ 200 := by
      rw [← Fo.items_len, pA.length_eq, toL_len]
      show ((X.n : Int) - 1).toNat ≤ 200
      omega
    obtain ⟨j1, j2⟩ := items_row c1 hA hAs pA hst
    obtain ⟨o1, o2⟩ := items_row c1 (hb0.keeps k2) (by rw [rowF_size]; omega) (by rw [row_items_toL]) (sorted_toL sX)
    obtain ⟨p1, p2⟩ := items_row c1 (hb.keeps k2) hHs pW sW
    simp only [cond_false]
    rw [e, i1, e2, j1, o1, p1, alive_true, same_ok j2, same_ok o2, same_ok (p2.trans i2.symm), same_ok i2]
    rfl
theorem older7 (l : Sl Item) (x : Item) : PCall Try.prog 9 [.one (.imm (slI itE l)), itC x] (.cv (ibool true)) := by
  have h := lawOlder l x
  rw [older_ok (by rw [rowB_n]; omega) (rowB_sorted 15 l _) x] at h
  exact h
end Go.Proofs.Ytadgjhbhghhbgaa.Abs
